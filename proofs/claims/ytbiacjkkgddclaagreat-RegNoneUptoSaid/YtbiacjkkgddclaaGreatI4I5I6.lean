/- The law's in; functions over ids. slices.IndexFunc of ids. slices.DeleteFunc of ids. -/
import Derived.Test.YtbiacjkkgddclaaGreatG1G2H2H9G5
import Derived.Test.YtbiacjkkgddclaaGreatH4H8Cl
import Derived.Test.YtbiacjkkgddclaaGreatPfMgKzG3
import Derived.Laws.OwnMore
import Derived.Laws.IdiomCopy
namespace Go.Proofs.YtbiacjkkgddclaaGreat
set_option linter.unusedSimpArgs false
set_option linter.unusedVariables false
open Go Go.RowKit Go.Shelf Go.Maps

/-- a function over ids answers g, as long as all but a zone stays. -/
def FunI (W0 : World) (Z : Nat → Prop) (k : Nat) (lb : Array Value) (g : Ik → Bool) : Prop :=
  (∀ args w, (callFunc k args).run Tryz.prog w = .ok (.enter k args) w) ∧ ∀ (w : World) (x : Ik), x.ok → KeepZ Z W0 w → Calls Tryz.prog k (#[.agg #[.int .i64 x.a, .int .i64 x.n]] ++ lb) w fun e w' => e = .returned (.bool (g x)) ∧ Below w.heap.size w w'
theorem FunI.later {W0 W1 : World} {Z Z' : Nat → Prop} {k : Nat} {lb : Array Value} {g : Ik → Bool} (h : FunI W0 Z k lb g) (h1 : KeepZ Z W0 W1) (hz : ∀ b, Z' b → Z b) : FunI W1 Z' k lb g :=
  ⟨h.1, fun w x hx hk => h.2 w x hx (h1.trans (hk.mono hz))⟩
set_option maxRecDepth 100000 in
set_option maxHeartbeats 2000000 in
theorem in1_c (w : World) (bx : Nat) (G : Nat → Prop) (A : Option Addr) (c n : Nat) (l : List Ik) (hbx : w.heap[bx]? = some (.cells #[.slice A n c] 38)) (hs : IkG w G A c l) (hG : ∀ k, G k → k < w.heap.size) (hn : n = l.length) (x : Ik) :
    Calls Tryz.prog 39 #[.agg #[.int .i64 x.a, .int .i64 x.n], .pointer (some ⟨bx, 0, none⟩)] w fun e w' => e = .returned (.bool (decide (x ∈ l))) ∧ Below w.heap.size w w' := by
  obtain ⟨g, hg⟩ : ∃ g, g = w.heap.size := ⟨_, rfl⟩
  obtain ⟨W0, hW0⟩ : ∃ W, W = w.alloc (.cells #[.int .i64 x.a, .int .i64 x.n] 28) := ⟨_, rfl⟩
  have hbw : BelD w W0 := by rw [hW0]; exact bel1 _ _
  have hz0 : W0.heap.size = g + 1 := by rw [hW0, hg]; simp
  have hk0 : W0.heap[g]? = some (.cells #[.int .i64 x.a, .int .i64 x.n] 28) := by rw [hW0, hg]; exact heap_alloc_new _ _
  have hbl : bx < w.heap.size := (Array.getElem?_eq_some_iff.1 hbx).1
  have hc0 : W0.cell? ⟨bx, 0, none⟩ = some (.slice A n c) := cell_of_row _ _ 0 _ _ _ ((hbw.1.block bx hbl).trans hbx)
  have hcc : n ≤ c ∧ c ≤ 9223372036854775807 := ⟨by rw [hn]; exact hs.1, hs.2.1⟩
  have hrow : ∀ wz : World, Below W0.heap.size W0 wz → ∀ j (hj : j < l.length), ∃ b o, A = some ⟨b, o, none⟩ ∧ wz.rangeAt b (o + j * 2) [.int .i64 l[j].a, .int .i64 l[j].n] := fun wz hz j hj => by
    obtain ⟨b, o, e, hg', hr'⟩ := hs.at_ j hj
    have hb : b < w.heap.size := hG b hg'
    exact ⟨b, o, e, fun i v hv => (World.cell?_of_block (a := ⟨b, o + j * 2 + i, none⟩) ((hz.block b (by omega)).trans (hbw.1.block b hb))).trans (hr' i v hv)⟩
  have hxr : ∀ wz : World, Below W0.heap.size W0 wz → wz.rangeAt g 0 [.int .i64 x.a, .int .i64 x.n] := fun wz hz => ik_range ((hz.block g (by omega)).trans hk0)
  have HIL := Lib.hid (show ∀ a b : Value, (Tryz.prog.info? 28).map (·.size) = some [a, b].length from fun _ _ => ikInfo)
  have HG := Lib.hid hg
  have HW := Lib.hid hW0
  have HZ := Lib.hid hz0
  have HROW := Lib.hid hrow
  have HXR := Lib.hid hxr
  have HN := Lib.hid hn
  have HBW := Lib.hid hbw
  have hc1 := hcc.1
  have hc2 := hcc.2
  clear hg hW0 hz0 hk0 hcc hrow hn hbw hs hG hbx hbl hxr
  obtain ⟨xa, xn⟩ := x
  dsimp only at HXR
  go_enter Tryz.func39, Tryz.ntmps39
  go_upto_region 1 with (fail)
  rw [← HW.out, ← HG.out]
  go_wp2
  clear hc0
  go_loopw [8] (fun iv wr => ∃ j : Nat, j ≤ n ∧ iv = .int .i64 j ∧ Hid ((∀ i (h : i < l.length), i < j → l[i] ≠ ⟨xa, xn⟩) ∧ Below W0.heap.size W0 wr)) (fun iv _ => n - (intOf iv).toNat)
  case atStart => exact ⟨0, Nat.zero_le _, rfl, Lib.hid ⟨fun i _ h => by omega, Below.refl _ _⟩⟩
  case round =>
   obtain ⟨j, hj, rfl, hR⟩ := hrel
   by_cases hlt : j < n
   · have hjl : j < l.length := by rw [← HN.out]; exact hlt
     obtain ⟨q, o, hA, hrg⟩ := HROW.out wr hR.out.2 j hjl
     subst hA
     have hj1 : (j : Int) < n := by omega
     have hj0 : (0 : Int) ≤ j := by omega
     obtain ⟨ya, hya⟩ : ∃ y, y = l[j].a := ⟨_, rfl⟩
     obtain ⟨yn, hyn⟩ : ∃ y, y = l[j].n := ⟨_, rfl⟩
     rw [← hya, ← hyn] at hrg
     have HY := Lib.hid (And.intro hya hyn)
     have hze := fun w => eqI w ya yn xa xn
     have HRG := Lib.hid hrg
     obtain ⟨w1, hw1⟩ : ∃ w1, w1 = wr.alloc (.cells #[.int .i64 ya, .int .i64 yn] 28) := ⟨_, rfl⟩
     have hb1 : Below wr.heap.size wr w1 := by rw [hw1]; exact (bel1 _ _).1
     have hb01 : Below W0.heap.size W0 w1 := hR.out.2.trans (hb1.mono hR.out.2.size)
     have hxr1 := HXR.out w1 hb01
     have hyr1 : w1.rangeAt wr.heap.size 0 [.int .i64 ya, .int .i64 yn] := ik_range (by rw [hw1]; exact heap_alloc_new _ _)
     have HB1 := Lib.hid hb01
     have HW1 := Lib.hid hw1
     clear hya hyn hrg hb1 hb01 hw1
     go_upto_region 4 with (first | (refine wpList_mid rfl 28 _ rfl q (o + j * 2) rfl [.int .i64 ya, .int .i64 yn] _ HRG.out ikUnd rfl (HIL.out _ _) ?_) | fail)
     rw [← HW1.out]
     by_cases he : ya = xa ∧ yn = xn
     · rw [decide_eq_true he] at hze
       go_wp2_with (first | (refine wpList_mid rfl 28 _ rfl wr.heap.size 0 rfl [.int .i64 ya, .int .i64 yn] _ hyr1 ikUnd rfl (HIL.out _ _) ?_) | (refine wpList_mid rfl 28 _ rfl g 0 rfl [.int .i64 xa, .int .i64 xn] _ hxr1 ikUnd rfl (HIL.out _ _) ?_) | fail)
       first | go_ret | go_ret2
       have hb := HBW.out.1
       refine ⟨ret_bool ?_, hb.trans (HB1.out.mono hb.size)⟩
       symm
       rw [decide_eq_true_eq]
       obtain ⟨h1, h2⟩ := HY.out
       obtain ⟨e1, e2⟩ := he
       have e3 : l[j] = ⟨xa, xn⟩ := by rw [← e1, ← e2, h1, h2]
       rw [← e3]
       exact List.getElem_mem hjl
     · rw [decide_eq_false he] at hze
       have HNE := Lib.hid he
       clear he
       go_wp2_with (first | (refine wpList_mid rfl 28 _ rfl wr.heap.size 0 rfl [.int .i64 ya, .int .i64 yn] _ hyr1 ikUnd rfl (HIL.out _ _) ?_) | (refine wpList_mid rfl 28 _ rfl g 0 rfl [.int .i64 xa, .int .i64 xn] _ hxr1 ikUnd rfl (HIL.out _ _) ?_) | fail)
       go_roundw
       case measure => simp [intOf]; omega
       case rel =>
         refine ⟨j + 1, by omega, by go_num, Lib.hid ⟨fun i hi hij => ?_, HB1.out⟩⟩
         by_cases e : i = j
         · subst e
           intro e2
           refine HNE.out ?_
           rw [HY.out.1, HY.out.2, e2]
           exact ⟨rfl, rfl⟩
         · exact hR.out.1 i hi (by omega)
   · have hje : j = n := by omega
     subst hje
     have hiI : ¬ ((j : Int) < (j : Int)) := by omega
     go_wp2
     first | go_ret | go_ret2
     have hb := HBW.out.1
     refine ⟨ret_bool ?_, hb.trans (hR.out.2.mono hb.size)⟩
     symm
     rw [decide_eq_false_iff_not]
     intro hm
     obtain ⟨i, hi, e⟩ := List.mem_iff_getElem.1 hm
     exact hR.out.1 i hi (by rw [HN.out]; exact hi) e
end Go.Proofs.YtbiacjkkgddclaaGreat
namespace Go.Proofs.YtbiacjkkgddclaaGreat
set_option linter.unusedSimpArgs false
set_option linter.unusedVariables false
open Go Go.RowKit Go.Shelf Go.Maps

/-- the first that a function takes, -1: none. -/
def IdxI (p : Ik → Bool) (l : List Ik) (r : Int) : Prop := (r = -1 ∧ ∀ j (h : j < l.length), p l[j] = false) ∨ ∃ k, ∃ h : k < l.length, r = k ∧ p l[k] = true ∧ ∀ j (h' : j < l.length), j < k → p l[j] = false
theorem idxI_at {p : Ik → Bool} {l : List Ik} {r : Int} (h : IdxI p l r) {k : Nat} (hk : k < l.length) (h1 : p l[k] = true) (h2 : ∀ j (h' : j < l.length), j < k → p l[j] = false) : r = k := by
  rcases h with ⟨-, h⟩ | ⟨k', hk', e, h3, h4⟩
  · have := h k hk; rw [h1] at this; cases this
  · rcases Nat.lt_trichotomy k k' with q | q | q
    · have := h4 k hk q; rw [h1] at this; cases this
    · rw [e, q]
    · have := h2 k' hk' q; rw [h3] at this; cases this
theorem idxI_none {p : Ik → Bool} {l : List Ik} {r : Int} (h : IdxI p l r) (h2 : ∀ j (h' : j < l.length), p l[j] = false) : r = -1 := by
  rcases h with ⟨h, -⟩ | ⟨k', hk', e, h3, h4⟩
  · exact h
  · have := h2 k' hk'; rw [h3] at this; cases this
theorem idxI_ex (p : Ik → Bool) : ∀ l : List Ik, ∃ r, IdxI p l r
  | [] => ⟨-1, .inl ⟨rfl, fun j h => absurd h (Nat.not_lt_zero _)⟩⟩
  | y :: l => by
    cases hy : p y with
    | true => exact ⟨0, .inr ⟨0, by simp, rfl, by simpa using hy, fun j _ h => absurd h (Nat.not_lt_zero _)⟩⟩
    | false =>
      obtain ⟨r, h⟩ := idxI_ex p l
      rcases h with ⟨e, h⟩ | ⟨k, hk, e, h3, h4⟩
      · refine ⟨-1, .inl ⟨rfl, fun j hj => ?_⟩⟩
        cases j with
        | zero => simpa using hy
        | succ j => simpa using h j (by simpa using hj)
      · refine ⟨((k + 1 : Nat) : Int), .inr ⟨k + 1, by simpa using hk, rfl, by simpa using h3, fun j hj hjk => ?_⟩⟩
        cases j with
        | zero => simpa using hy
        | succ j => simpa using h4 j (by simpa using hj) (by omega)
set_option maxRecDepth 100000 in
set_option maxHeartbeats 2000000 in
theorem indexF_c {w : World} {Z G : Nat → Prop} {k : Nat} {lb : Array Value} {p : Ik → Bool} (hf : FunI w Z k lb p) (A : Option Addr) (c n : Nat) (l : List Ik) (hs : IkG w G A c l) (hG : ∀ k, G k → k < w.heap.size) (hn : n = l.length) (hok : ∀ x ∈ l, x.ok) (r : Int) (hr : IdxI p l r) :
    Calls Tryz.prog 63 #[.slice A n c, .func (.func k) #[] lb] w fun e w' => e = .returned (.int .i64 r) ∧ Below w.heap.size w w' := by
  have hcc : n ≤ c ∧ c ≤ 9223372036854775807 := ⟨by rw [hn]; exact hs.1, hs.2.1⟩
  have hrow : ∀ wz : World, Below w.heap.size w wz → ∀ j (hj : j < l.length), ∃ b o, A = some ⟨b, o, none⟩ ∧ wz.rangeAt b (o + j * 2) [.int .i64 l[j].a, .int .i64 l[j].n] := fun wz hz j hj => by
    obtain ⟨b, o, e, hg', hr'⟩ := hs.at_ j hj
    have hb : b < w.heap.size := hG b hg'
    exact ⟨b, o, e, fun i v hv => (World.cell?_of_block (a := ⟨b, o + j * 2 + i, none⟩) (hz.block b hb)).trans (hr' i v hv)⟩
  have hcl : ∀ wz : World, Below w.heap.size w wz → ∀ j (hj : j < l.length), Calls Tryz.prog k (#[.agg #[.int .i64 l[j].a, .int .i64 l[j].n]] ++ lb) wz fun e w' => e = .returned (.bool (p l[j])) ∧ Below wz.heap.size wz w' := fun wz hz j hj => hf.2 wz l[j] (hok _ (List.getElem_mem hj)) (KeepZ.of hz)
  have hen := hf.1
  have HIL := Lib.hid (show ∀ a b : Value, (Tryz.prog.info? 28).map (·.size) = some [a, b].length from fun _ _ => ikInfo)
  have HROW := Lib.hid hrow
  have HCL := Lib.hid hcl
  have HEN := Lib.hid hen
  have HN := Lib.hid hn
  have HR := Lib.hid hr
  have hc1 := hcc.1
  have hc2 := hcc.2
  clear hcc hrow hn hs hG hcl hen hf hok hr
  go_enter Tryz.func63, Tryz.ntmps63
  go_wp2
  go_loopw [5, 8] (fun v iv wr => ∃ j : Nat, j ≤ n ∧ iv = .int .i64 j ∧ Hid ((∀ i (h : i < l.length), i < j → p l[i] = false) ∧ Below w.heap.size w wr)) (fun _ iv _ => n - (intOf iv).toNat)
  case atStart => exact ⟨0, Nat.zero_le _, rfl, Lib.hid ⟨fun i _ h => by omega, Below.refl _ _⟩⟩
  case round =>
   obtain ⟨j, hj, rfl, hR⟩ := hrel
   by_cases hlt : j < n
   · have hjl : j < l.length := by rw [← HN.out]; exact hlt
     obtain ⟨q, o, hA, hrg⟩ := HROW.out wr hR.out.2 j hjl
     have hcall := HCL.out wr hR.out.2 j hjl
     subst hA
     have hj1 : (j : Int) < n := by omega
     have hj0 : (0 : Int) ≤ j := by omega
     obtain ⟨y, hy⟩ : ∃ y, y = l[j] := ⟨_, rfl⟩
     rw [← hy] at hrg hcall
     have HY := Lib.hid hy
     have HRG := Lib.hid hrg
     have HC := Lib.hid hcall
     clear hy hrg hcall
     obtain ⟨ya, yn⟩ := y
     dsimp only at HRG HC
     have hen := HEN.out
     cases hp : p ⟨ya, yn⟩ with
     | true =>
       rw [hp] at HC
       have HP := Lib.hid hp
       clear hp
       go_wp2_with (first | (refine wpList_mid rfl 28 _ rfl q (o + j * 2) rfl [.int .i64 ya, .int .i64 yn] _ HRG.out ikUnd rfl (HIL.out _ _) ?_) | (refine HC.out.mono ?_; rintro e w2 ⟨rfl, hb2⟩; have HB2 := Lib.hid hb2; clear hb2))
       first | go_ret | go_ret2
       refine ⟨?_, hR.out.2.trans (HB2.out.mono hR.out.2.size)⟩
       rw [idxI_at HR.out hjl (by rw [← HY.out]; exact HP.out) (fun i h' hi => hR.out.1 i h' hi)]
       rfl
     | false =>
       rw [hp] at HC
       have HP := Lib.hid hp
       clear hp
       go_wp2_with (first | (refine wpList_mid rfl 28 _ rfl q (o + j * 2) rfl [.int .i64 ya, .int .i64 yn] _ HRG.out ikUnd rfl (HIL.out _ _) ?_) | (refine HC.out.mono ?_; rintro e w2 ⟨rfl, hb2⟩; have HB2 := Lib.hid hb2; clear hb2))
       go_roundw
       case measure => simp [intOf]; omega
       case rel =>
         refine ⟨j + 1, by omega, by go_num, Lib.hid ⟨fun i hi hij => ?_, hR.out.2.trans (HB2.out.mono hR.out.2.size)⟩⟩
         by_cases e : i = j
         · subst e
           rw [← HY.out]
           exact HP.out
         · exact hR.out.1 i hi (by omega)
   · have hje : j = n := by omega
     subst hje
     have hiI : ¬ ((j : Int) < (j : Int)) := by omega
     go_wp2
     first | go_ret | go_ret2
     refine ⟨?_, hR.out.2⟩
     rw [idxI_none HR.out (fun i h' => hR.out.1 i h' (by rw [HN.out]; exact h'))]
     rfl
end Go.Proofs.YtbiacjkkgddclaaGreat
namespace Go.Proofs.YtbiacjkkgddclaaGreat
set_option linter.unusedSimpArgs false
set_option linter.unusedVariables false
open Go Go.RowKit Go.Shelf Go.Maps

/-- a row cut. -/
theorem own_cutI {w : World} {base g n cap i : Nat} {l : List Ik} (h : w.ownsRow base 28 2 (.slice (some ⟨g, 0, none⟩) n cap) n (ikCells l)) (hi : i ≤ n) (hn : n = l.length) : w.ownsRow base 28 2 (.slice (some ⟨g, 0, none⟩) i cap) i (ikCells (l.take i)) := by
  have hlen : (ikCells (l.take i)).length = i * 2 := by rw [ikCells_len, List.length_take]; omega
  rcases h.2 with ⟨e, -⟩ | ⟨g', c, cur, e, e2, e3, e4, e5, e6, e7⟩
  · cases e
  · simp only [Value.slice.injEq, Option.some.injEq, Addr.mk.injEq, true_and, and_true] at e
    obtain ⟨rfl, rfl⟩ := e
    refine ⟨hlen, .inr ⟨g, cap, cur, rfl, e2, e3, by omega, e5, e6, ?_⟩⟩
    have h1 : ikCells l = ikCells (l.take i) ++ ikCells (l.drop i) := by unfold ikCells; rw [← List.flatMap_append, List.take_append_drop]
    have h2 : cur.toList.take (i * 2) = (cur.toList.take (n * 2)).take (i * 2) := by rw [List.take_take]; congr 1; omega
    rw [h2, e7, h1, List.take_append_of_le_length (by omega), List.take_of_length_le (by omega)]
theorem own_past {base g cap i : Nat} {xs : List Value} : ∀ (vs : List Value) (o : Nat) (w : World), i * 2 ≤ o → w.ownsRow base 28 2 (.slice (some ⟨g, 0, none⟩) i cap) i xs → (w.setCells g o vs).ownsRow base 28 2 (.slice (some ⟨g, 0, none⟩) i cap) i xs
  | [], _, _, _, h => h
  | v :: r, o, w, ho, h => by
    have := (h.stored o v).1
    rw [List.set_eq_of_length_le (by rw [h.1]; exact ho)] at this
    exact own_past r (o + 1) _ (by omega) this
theorem keepZ_cells {g : Nat} : ∀ (vs : List Value) (o : Nat) (w : World), KeepZ (fun k => k = g) w (w.setCells g o vs)
  | [], _, w => KeepZ.refl _ w
  | v :: r, o, w => (show KeepZ (fun k => k = g) w (w.setCell ⟨g, o, none⟩ v) from ⟨rfl, rfl, rfl, by simp, fun k _ hk => Below.heap_setCell w _ _ k hk⟩).trans (keepZ_cells r (o + 1) _)
theorem own_setI {w : World} {base g n cap : Nat} {l : List Ik} (h : w.ownsRow base 28 2 (.slice (some ⟨g, 0, none⟩) n cap) n (ikCells l)) (hn : n = l.length) (i : Nat) (x : Ik) (hi : i < n) : ((w.setCell ⟨g, i * 2, none⟩ (.int .i64 x.a)).setCell ⟨g, i * 2 + 1, none⟩ (.int .i64 x.n)).ownsRow base 28 2 (.slice (some ⟨g, 0, none⟩) n cap) n (ikCells (l.set i x)) := by
  have h1 := ((h.stored (i * 2) (.int .i64 x.a)).1.stored (i * 2 + 1) (.int .i64 x.n)).1
  have e : ((ikCells l).set (i * 2) (.int .i64 x.a)).set (i * 2 + 1) (.int .i64 x.n) = ikCells (l.set i x) := by
    clear h h1
    subst hn
    induction l generalizing i with
    | nil => exact absurd hi (Nat.not_lt_zero _)
    | cons y l ih =>
      have ey : ikCells (y :: l) = .int .i64 y.a :: .int .i64 y.n :: ikCells l := rfl
      rw [ey]
      cases i with
      | zero => rfl
      | succ i =>
        rw [show (i + 1) * 2 = i * 2 + 1 + 1 by omega, show i * 2 + 1 + 1 + 1 = (i * 2 + 1) + 1 + 1 by omega]
        simp only [List.set_cons_succ]
        rw [ih i (by simpa using hi)]
        rfl
  rwa [e] at h1
theorem zeroId_run : ∀ w, (zeroValue 28).run Tryz.prog w = .ok (.agg #[.int .i64 0, .int .i64 0]) w := fun w => by kernel_rfl
/-- the spare ids are cleared. -/
theorem clearI_run {w : World} {b o n c : Nat} (ty : TypeId) (hc : ∀ j, j < n * 2 → (w.cell? ⟨b, o + j, none⟩).isSome = true) (hf : ∀ j, j < n * 2 → w.frozen? ⟨b, o + j, none⟩ = false) (hn : 0 < n) :
    ∃ zs : List Value, (Builtin.clear_ #[38] ty #[.slice (some ⟨b, o, none⟩) n c]).run Tryz.prog w = .ok (.tuple #[]) (w.setCells b o zs) := by
  obtain ⟨zs, hzs⟩ : ∃ zs, zs = (Builtin.zeroCells (Value.agg #[.int .i64 0, .int .i64 0]).cells n).toList := ⟨_, rfl⟩
  have hl : zs.length = n * 2 := by rw [hzs]; simp [Builtin.zeroCells, Value.cells]
  have h1 : ∀ v ∈ zs, v.oneCell' = true := by
    intro v hv
    rw [hzs] at hv
    simp only [Builtin.zeroCells, Value.cells, Array.toList_map, List.mem_map, List.size_toArray, List.length_cons, List.length_nil] at hv
    obtain ⟨i, -, rfl⟩ := hv
    rcases (show i % 2 = 0 ∨ i % 2 = 1 by omega) with e | e <;> simp [e, Value.oneCell']
  refine ⟨zs, ?_⟩
  have hst := run_storeCells_cells (P := Tryz.prog) b o zs 0 w (by rw [hl]; simpa using hc) (by rw [hl]; simpa using hf) h1
  simp only [Nat.add_zero] at hst
  obtain ⟨m, rfl⟩ : ∃ m, n = m + 1 := ⟨n - 1, by omega⟩
  have hz := zeroId_run w
  simp only [Builtin.clear_, Sem.run_bind]
  simp [run_underlying undCs, hz, ← hzs, hst]
/-- where DeleteFunc stands. -/
structure DelI (w : World) (base g n c : Nat) (l : List Ik) (p : Ik → Bool) (i j : Nat) (lk : List Ik) (wr : World) : Prop where
  own : wr.ownsRow base 28 2 (.slice (some ⟨g, 0, none⟩) n c) n (ikCells lk)
  len : lk.length = n
  pre : lk.take i = (l.take j).filter fun x => !p x
  post : lk.drop j = l.drop j
  keep : KeepZ (fun b => b = g) w wr
  lt : i < j
theorem DelI.start {w wr : World} {base g n c : Nat} {l : List Ik} {p : Ik → Bool} {k : Nat} (h : wr.ownsRow base 28 2 (.slice (some ⟨g, 0, none⟩) n c) n (ikCells l)) (hn : n = l.length) (hb : Below w.heap.size w wr) (hk : k < l.length) (h1 : p l[k] = true) (h2 : ∀ j (h' : j < l.length), j < k → p l[j] = false) : DelI w base g n c l p k (k + 1) l wr := by
  refine ⟨h, hn.symm, ?_, rfl, KeepZ.of hb, Nat.lt_succ_self _⟩
  rw [List.take_succ_eq_append_getElem hk, List.filter_append]
  have e1 : (l.take k).filter (fun x => !p x) = l.take k := by
    rw [List.filter_eq_self]
    intro x hx
    obtain ⟨i, hi, rfl⟩ := List.mem_iff_getElem.1 hx
    rw [List.length_take] at hi
    rw [List.getElem_take, h2 i (by omega) (by omega)]; rfl
  rw [e1]
  simp [h1]
theorem DelI.kept {w wr w' : World} {base g n c : Nat} {l : List Ik} {p : Ik → Bool} {i j : Nat} {lk : List Ik} (h : DelI w base g n c l p i j lk wr) (hb : Below wr.heap.size wr w') : DelI w base g n c l p i j lk w' :=
  ⟨own_sameC h.own (fun k cs hk _ _ => hb.block k (Array.getElem?_eq_some_iff.1 hk).1), h.len, h.pre, h.post, h.keep.trans (KeepZ.of hb), h.lt⟩
theorem DelI.at_ {w wr : World} {base g n c : Nat} {l : List Ik} {p : Ik → Bool} {i j : Nat} {lk : List Ik} (h : DelI w base g n c l p i j lk wr) (hn : n = l.length) (hj : j < n) : ∃ (h1 : j < l.length) (h2 : j < lk.length), lk[j] = l[j] := by
  have h1 : j < l.length := by omega
  have h2 : j < lk.length := by rw [h.len]; exact hj
  refine ⟨h1, h2, ?_⟩
  have := h.post
  rw [List.drop_eq_getElem_cons h1, List.drop_eq_getElem_cons h2] at this
  exact (List.cons.inj this).1
theorem DelI.skip {w wr : World} {base g n c : Nat} {l : List Ik} {p : Ik → Bool} {i j : Nat} {lk : List Ik} (h : DelI w base g n c l p i j lk wr) (hj : j < l.length) (hjl : j < lk.length) (hp : p l[j] = true) : DelI w base g n c l p i (j + 1) lk wr := by
  refine ⟨h.own, h.len, ?_, ?_, h.keep, by have := h.lt; omega⟩
  · rw [List.take_succ_eq_append_getElem hj, List.filter_append, ← h.pre]
    simp [hp]
  · have := h.post
    rw [List.drop_eq_getElem_cons hj, List.drop_eq_getElem_cons hjl] at this
    exact (List.cons.inj this).2
theorem DelI.take_ {w wr : World} {base g n c : Nat} {l : List Ik} {p : Ik → Bool} {i j : Nat} {lk : List Ik} (h : DelI w base g n c l p i j lk wr) (hn : n = l.length) (hj : j < l.length) (hjl : j < lk.length) (hp : p l[j] = false) : DelI w base g n c l p (i + 1) (j + 1) (lk.set i l[j]) ((wr.setCell ⟨g, i * 2, none⟩ (.int .i64 l[j].a)).setCell ⟨g, i * 2 + 1, none⟩ (.int .i64 l[j].n)) := by
  have hlt := h.lt
  refine ⟨own_setI h.own h.len.symm i _ (by omega), by rw [List.length_set]; exact h.len, ?_, ?_, h.keep.trans ⟨rfl, rfl, rfl, by simp, fun k _ hk => (Below.heap_setCell _ _ _ k hk).trans (Below.heap_setCell _ _ _ k hk)⟩, by omega⟩
  · rw [List.take_succ_eq_append_getElem hj, List.filter_append, ← h.pre, List.take_succ_eq_append_getElem (by rw [List.length_set]; omega), List.getElem_set_self, List.take_set, List.set_eq_of_length_le (by rw [List.length_take]; omega)]
    simp [hp]
  · have := h.post
    rw [List.drop_eq_getElem_cons hj, List.drop_eq_getElem_cons hjl] at this
    rw [List.drop_set_of_lt (by omega)]
    exact (List.cons.inj this).2
/-- what DeleteFunc hands back. -/
def DelP (w : World) (base : Nat) (A : Option Addr) (l : List Ik) (e : Ending) (w' : World) : Prop :=
  ∃ A' c', e = .returned (.slice A' l.length c') ∧ w'.ownsRow base 28 2 (.slice A' l.length c') l.length (ikCells l) ∧ KeepZ (fun b => A = some ⟨b, 0, none⟩) w w'
theorem DelI.done {w wr : World} {base g n c : Nat} {l : List Ik} {p : Ik → Bool} {i : Nat} {lk : List Ik} (h : DelI w base g n c l p i n lk wr) (hn : n = l.length) (zs : List Value) : DelP w base (some ⟨g, 0, none⟩) (l.filter fun x => !p x) (.returned (.slice (some ⟨g, 0, none⟩) i c)) (wr.setCells g (i * 2) zs) := by
  have hlt := h.lt
  have e : lk.take i = l.filter fun x => !p x := by rw [h.pre, List.take_of_length_le (by omega)]
  have el : (l.filter fun x => !p x).length = i := by rw [← e, List.length_take, h.len]; omega
  have h1 := own_cutI h.own (i := i) (by omega) h.len.symm
  have h2 := own_past zs (i * 2) wr (Nat.le_refl _) h1
  rw [e] at h2
  unfold DelP
  rw [el]
  exact ⟨_, c, rfl, h2, (h.keep.trans (keepZ_cells zs _ wr)).mono (fun k hk => by rw [hk])⟩
set_option maxRecDepth 100000 in
set_option maxHeartbeats 4000000 in
theorem deleteF_c {w : World} {Z : Nat → Prop} {k : Nat} {lb : Array Value} {p : Ik → Bool} (hf : FunI w Z k lb p) (base : Nat) (A : Option Addr) (c n : Nat) (l : List Ik) (hown : w.ownsRow base 28 2 (.slice A n c) n (ikCells l)) (hn : n = l.length) (hok : ∀ x ∈ l, x.ok) (hZ : ∀ b, A = some ⟨b, 0, none⟩ → Z b) :
    Calls Tryz.prog 37 #[.slice A n c, .func (.func k) #[] lb] w (DelP w base A (l.filter fun x => !p x)) := by
  obtain ⟨r, hr⟩ := idxI_ex p l
  have hG : ∀ b, base ≤ b ∧ b < w.heap.size → b < w.heap.size := fun b h => h.2
  have HIX := Lib.hid (indexF_c hf A c n l (own_ikG hown hn) hG hn hok r hr)
  have hcc : n ≤ c ∧ c ≤ 9223372036854775807 := ⟨by rw [hn]; exact (own_ikG hown hn).1, (own_ikG hown hn).2.1⟩
  have hc1 := hcc.1
  have hc2 := hcc.2
  have HN := Lib.hid hn
  rcases hr with ⟨rfl, hall⟩ | ⟨k0, hk0, rfl, hk1, hk2⟩
  · have e : (l.filter fun x => !p x) = l := by
      rw [List.filter_eq_self]
      intro x hx
      obtain ⟨i, hi, rfl⟩ := List.mem_iff_getElem.1 hx
      rw [hall i hi]; rfl
    rw [e]
    have HO := Lib.hid hown
    clear hown hf hok hZ hall e hcc hG hn
    go_enter Tryz.func37, Tryz.ntmps37
    go_wp2_with (go_at_call 63; refine HIX.out.mono ?_; rintro e w1 ⟨rfl, hb1⟩; have HB1 := Lib.hid hb1; clear hb1)
    go_ret
    refine ⟨A, c, by rw [← HN.out]; rfl, ?_, KeepZ.of HB1.out⟩
    rw [← HN.out]
    exact own_sameC HO.out (fun k cs hk _ _ => HB1.out.block k (Array.getElem?_eq_some_iff.1 hk).1)
  · obtain ⟨g, rfl⟩ : ∃ g, A = some ⟨g, 0, none⟩ := by
      rcases hown.2 with ⟨e, e0⟩ | ⟨g', c', cur, e, -⟩
      · omega
      · exact ⟨g', by injection e⟩
    have hen := hf.1
    have hcl : ∀ wz : World, KeepZ (fun b => b = g) w wz → ∀ x : Ik, x.ok → Calls Tryz.prog k (#[.agg #[.int .i64 x.a, .int .i64 x.n]] ++ lb) wz fun e w' => e = .returned (.bool (p x)) ∧ Below wz.heap.size wz w' := fun wz hz x hx => hf.2 wz x hx (hz.mono (fun b e => by rw [e]; exact hZ g rfl))
    have hst : ∀ wr, Below w.heap.size w wr → DelI w base g n c l p k0 (k0 + 1) l wr := fun wr hb => DelI.start (own_sameC hown (fun k cs hk _ _ => hb.block k (Array.getElem?_eq_some_iff.1 hk).1)) hn hb hk0 hk1 hk2
    have hne1 : ((k0 : Int) == -1) = false := beq_eq_false_iff_ne.2 (by omega)
    have HCL := Lib.hid hcl
    have HST := Lib.hid hst
    have HEN := Lib.hid hen
    have HOK := Lib.hid hok
    have HIL := Lib.hid (show ∀ a b : Value, (Tryz.prog.info? 28).map (·.size) = some [a, b].length from fun _ _ => ikInfo)
    have hkn : k0 < n := by rw [hn]; exact hk0
    have hnk : n ≤ 9223372036854775807 := by omega
    clear hcc hown hG hn hcl hf hok hen hst hk1 hk2 hZ
    go_enter Tryz.func37, Tryz.ntmps37
    go_wp2_with (go_at_call 63; refine HIX.out.mono ?_; rintro e w1 ⟨rfl, hb1⟩; have HB1 := Lib.hid hb1; clear hb1)
    go_loopw [5, 6, 7] (fun s5 s6 _ wr => ∃ i j : Nat, j ≤ n ∧ s5 = .int .i64 i ∧ s6 = .int .i64 j ∧ ∃ lk, Hid (DelI w base g n c l p i j lk wr)) (fun _ s6 _ _ => n - (intOf s6).toNat)
    case atStart => exact ⟨k0, k0 + 1, by omega, rfl, by go_num, l, Lib.hid (HST.out _ HB1.out)⟩
    case round =>
     obtain ⟨i, j, hj, rfl, rfl, lk, hR⟩ := hrel
     by_cases hlt : j < n
     · obtain ⟨hjl, hjk, hjy⟩ := hR.out.at_ HN.out hlt
       have hrg : wr.rangeAt g (j * 2) [.int .i64 l[j].a, .int .i64 l[j].n] := by
         obtain ⟨b, o, e, -, hr⟩ := (own_ikG hR.out.own hR.out.len.symm).at_ j hjk
         simp only [Option.some.injEq, Addr.mk.injEq, and_true] at e
         obtain ⟨rfl, rfl⟩ := e
         rw [hjy, Nat.zero_add] at hr
         exact hr
       have hj1 : (j : Int) < n := by omega
       have hj0 : (0 : Int) ≤ j := by omega
       have hi1 : (i : Int) < n := by have := hR.out.lt; omega
       have hi0 : (0 : Int) ≤ i := by omega
       obtain ⟨w1', hw1⟩ : ∃ x, x = wr.alloc (.cells #[.int .i64 l[j].a, .int .i64 l[j].n] 28) := ⟨_, rfl⟩
       have hb1 : Below wr.heap.size wr w1' := by rw [hw1]; exact (bel1 _ _).1
       have hvr : ∀ wz, Below w1'.heap.size w1' wz → wz.rangeAt wr.heap.size 0 [.int .i64 l[j].a, .int .i64 l[j].n] := fun wz hz => ik_range ((hz.block wr.heap.size (by rw [hw1]; simp)).trans (by rw [hw1]; exact heap_alloc_new _ _))
       have hcall := HCL.out w1' (hR.out.kept hb1).keep l[j] (HOK.out _ (List.getElem_mem hjl))
       have hD1 := hR.out.kept hb1
       have HD1 := Lib.hid hD1
       have HVR := Lib.hid hvr
       have HTK := Lib.hid (fun wz (h : DelI w base g n c l p i j lk wz) (hp : p l[j] = false) => h.take_ HN.out hjl hjk hp)
       have HSK := Lib.hid (fun wz (h : DelI w base g n c l p i j lk wz) (hp : p l[j] = true) => h.skip hjl hjk hp)
       have HW1 := Lib.hid hw1
       clear hw1 hvr hD1 hjy hb1
       obtain ⟨y, hy⟩ : ∃ y, y = l[j] := ⟨_, rfl⟩
       rw [← hy] at hrg hcall HVR HTK HSK HW1
       have HY := Lib.hid hy
       have HRG := Lib.hid hrg
       have HC := Lib.hid hcall
       clear hy hrg hcall
       obtain ⟨ya, yn⟩ := y
       dsimp only at HRG HC HVR HTK HW1
       have hen := HEN.out
       obtain ⟨gb, hgb⟩ : ∃ b, b = wr.heap.size := ⟨_, rfl⟩
       rw [← hgb] at HVR
       have HGB := Lib.hid hgb
       clear hgb
       go_upto_region 8 with (first | (refine wpList_mid rfl 28 _ rfl g (j * 2) rfl [.int .i64 ya, .int .i64 yn] _ HRG.out ikUnd rfl (HIL.out _ _) ?_) | fail)
       rw [← HW1.out, ← HGB.out]
       have hv1 := HVR.out w1' (Below.refl _ _)
       cases hp : p ⟨ya, yn⟩ with
       | true =>
         rw [hp] at HC
         have HP := Lib.hid hp
         clear hp
         go_wp2_with (first | (refine wpList_mid rfl 28 _ rfl gb 0 rfl [.int .i64 ya, .int .i64 yn] _ hv1 ikUnd rfl (HIL.out _ _) ?_) | (refine HC.out.mono ?_; rintro e w2 ⟨rfl, hb2⟩; have HB2 := Lib.hid hb2; clear hb2))
         go_roundw
         case measure => simp [intOf]; omega
         case rel => exact ⟨i, j + 1, by omega, rfl, by go_num, lk, Lib.hid (HSK.out _ (HD1.out.kept HB2.out) HP.out)⟩
       | false =>
         rw [hp] at HC
         have HP := Lib.hid hp
         clear hp
         go_upto_region 9 with (first | (refine wpList_mid rfl 28 _ rfl gb 0 rfl [.int .i64 ya, .int .i64 yn] _ hv1 ikUnd rfl (HIL.out _ _) ?_) | (refine HC.out.mono ?_; rintro e w2 ⟨rfl, hb2⟩; have HB2 := Lib.hid hb2; clear hb2))
         have hv2 := HVR.out w2 HB2.out
         have hD2 := HD1.out.kept HB2.out
         obtain ⟨u0, hu0⟩ : ∃ u, w2.cell? ⟨g, i * 2, none⟩ = some u := ⟨_, (hD2.own.cellAt (i * 2) (by have := hD2.lt; omega)).trans (List.getElem?_eq_getElem (by rw [ikCells_len, hD2.len]; have := hD2.lt; omega))⟩
         obtain ⟨u1, hu1⟩ : ∃ u, w2.cell? ⟨g, i * 2 + 1, none⟩ = some u := ⟨_, (hD2.own.cellAt (i * 2 + 1) (by have := hD2.lt; omega)).trans (List.getElem?_eq_getElem (by rw [ikCells_len, hD2.len]; have := hD2.lt; omega))⟩
         have hf0 := hD2.own.frozenAt (i * 2)
         have hf1 := hD2.own.frozenAt (i * 2 + 1)
         have HD2 := Lib.hid hD2
         clear hD2
         go_wp2_with (first | (refine wpList_mid rfl 28 _ rfl gb 0 rfl [.int .i64 ya, .int .i64 yn] _ hv2 ikUnd rfl (HIL.out _ _) ?_) | fail)
         go_roundw
         case measure => simp [intOf]; omega
         case rel => exact ⟨i + 1, j + 1, by omega, by go_num, by go_num, _, Lib.hid (HTK.out _ HD2.out HP.out)⟩
     · have hje : j = n := by omega
       subst hje
       have hiI : ¬ ((j : Int) < (j : Int)) := by omega
       have hij := hR.out.lt
       have hi1 : (i : Int) ≤ j := by omega
       have hi0 : (0 : Int) ≤ i := by omega
       have hic : (i : Int) ≤ c := by omega
       have hcl := fun ty => clearI_run (w := wr) (b := g) (o := i * 2) (n := j - i) (c := c - i) ty (fun t ht => by
         have e := hR.out.own.cellAt (i * 2 + t) (by omega)
         rw [e, List.getElem?_eq_getElem (by rw [ikCells_len, hR.out.len]; omega)]; rfl) (fun t _ => hR.out.own.frozenAt (i * 2 + t)) (by omega)
       obtain ⟨zs, hz⟩ := hcl 0
       clear hcl
       trace_state
       go_wp2
       first | go_ret | go_ret2
       exact hR.out.done HN.out zs
end Go.Proofs.YtbiacjkkgddclaaGreat
