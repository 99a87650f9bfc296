/- reg.clone: a write in new memory. A register's map: single operations. Rows of writes in memory. -/
import Derived.Test.YtbiacjkkgddclaaGreatPfMgKzG3
import Derived.Test.YtbiacjkkgddclaaGreatH4H8Cl
import Derived.Test.YtbiacjkkgddclaaGreatMpOa0
import Derived.OrdersHeld
import Derived.Deep.RegionHeld
import Derived.Great.BuildSlice
namespace Go.Proofs.YtbiacjkkgddclaaGreat
set_option linter.unusedSimpArgs false
set_option linter.unusedVariables false
open Go Go.RowKit Go.Shelf Go.Maps

/-- a variable for a write is laid. -/
theorem wpList_wrVar {ops : Array Oper} {rest : List Oper} {o : Oper} {a : Act} {w : World} {Q : Exit → Act → World → Prop} (hg : o.guard = none) (ho : o.op = .alloc 49) (g : Nat) (hz : w.heap.size = g)
    (h : wpList Tryz.prog ops Q rest (a.put o.dst (.pointer (some ⟨g, 0, none⟩))) (w.alloc (.cells (wrA zWr none 0 none 0) 49))) : wpList Tryz.prog ops Q (o :: rest) a w := by
  subst hz
  refine Great.wpList_allocTo hg o.dst rfl _ _ ?_ h
  unfold execOp
  simp only [ho]
  kernel_rfl
theorem wrA_parts (m : Wr) (A : Option Addr) (c : Nat) (Ao : Option Addr) (co : Nat) : (wrA m A c Ao co).toList = (m.id.cs ++ m.x.head) ++ ((nodeA m.x.t.d A m.x.t.l.length c).toList ++ [.slice Ao m.o.length co]) := by
  unfold wrA contA
  simp [List.append_assoc]
theorem wrA_set31 (m : Wr) (A : Option Addr) (c : Nat) (Ao Ao' : Option Addr) (co co' : Nat) : (wrA m A c Ao co).setIfInBounds 31 (.slice Ao' m.o.length co') = wrA m A c Ao' co' := by
  obtain ⟨⟨a, n⟩, ⟨k, v, t⟩, o⟩ := m
  rfl
theorem wr_head9 (m : Wr) : (m.id.cs ++ m.x.head).length = 9 := rfl
/-- the parts of a write in memory. -/
theorem wr_rows {w : World} {g : Nat} {m : Wr} {A : Option Addr} {c : Nat} {Ao : Option Addr} {co : Nat} {t : TypeId} {fr : Nat × Nat} (h : w.heap[g]? = some (.cells (wrA m A c Ao co) t fr)) :
    w.rangeAt g 0 m.id.cs ∧ w.rangeAt g 2 (contA m.x A c).toList ∧ w.rangeAt g 9 (nodeA m.x.t.d A m.x.t.l.length c).toList ∧ w.cell? ⟨g, 31, none⟩ = some (.slice Ao m.o.length co) ∧ w.rangeAt g 0 (m.id.cs ++ m.x.head) := by
  have hl : (contA m.x A c).toList.length = 29 := by rw [Array.length_toList, contA_size]
  have hn : (nodeA m.x.t.d A m.x.t.l.length c).toList.length = 22 := by rw [Array.length_toList, nodeA_size]
  have e : ∀ i u, (wrA m A c Ao co).toList[i]? = some u → (wrA m A c Ao co)[i]? = some u := fun i u hu => by rw [Array.getElem?_toList] at hu; exact hu
  refine ⟨row_range_ h _ _ (fun j v hv => e _ _ ?_), row_range_ h _ _ (fun j v hv => e _ _ ?_), row_range_ h _ _ (fun j v hv => e _ _ ?_), (cell_of_row _ _ 31 _ _ _ h).trans (e _ _ ?_), row_range_ h _ _ (fun j v hv => e _ _ ?_)⟩
  · have hj : j < 2 := (List.getElem?_eq_some_iff.1 hv).1
    rw [wrA_parts, Nat.zero_add, List.getElem?_append_left (by rw [wr_head9]; omega), List.getElem?_append_left (show j < 2 by omega)]; exact hv
  · have hj : j < 29 := by rw [← hl]; exact (List.getElem?_eq_some_iff.1 hv).1
    unfold wrA
    rw [show (m.id.cs ++ (contA m.x A c).toList ++ ([.slice Ao m.o.length co] : List Value)).toArray.toList = m.id.cs ++ ((contA m.x A c).toList ++ [.slice Ao m.o.length co]) from by simp [List.append_assoc], List.getElem?_append_right (show 2 ≤ 2 + j by omega), show 2 + j - m.id.cs.length = j from by show 2 + j - 2 = j; omega, List.getElem?_append_left (by omega)]
    exact hv
  · have hj : j < 22 := by rw [← hn]; exact (List.getElem?_eq_some_iff.1 hv).1
    rw [wrA_parts, List.getElem?_append_right (by rw [wr_head9]; omega), wr_head9, show 9 + j - 9 = j by omega, List.getElem?_append_left (by omega)]; exact hv
  · rw [wrA_parts, List.getElem?_append_right (by rw [wr_head9]; omega), wr_head9, List.getElem?_append_right (by rw [hn]; omega), hn]; rfl
  · have hj : j < 9 := by rw [← wr_head9 m]; exact (List.getElem?_eq_some_iff.1 hv).1
    rw [wrA_parts, Nat.zero_add, List.getElem?_append_left (by rw [wr_head9]; omega)]; exact hv
theorem ownsLow8 {w : World} {b1 b2 : Nat} {e : TypeId} {size : Nat} {v : Value} {n : Nat} {xs : List Value} (h : w.ownsRow b1 e size v n xs) (hb : b2 ≤ b1) : w.ownsRow b2 e size v n xs := by
  refine ⟨h.1, h.2.elim .inl ?_⟩
  rintro ⟨g, cap, cur, e1, e2, e3⟩
  exact .inr ⟨g, cap, cur, e1, Nat.le_trans hb e2, e3⟩
/-- a block into which may be written. -/
def SoftB (W : World) (b k : Nat) : Prop := ∃ cs T fr, W.heap[b]? = some (.cells cs T fr) ∧ k ≤ cs.size ∧ ∀ o, W.frozen? ⟨b, o, none⟩ = false
theorem SoftB.same {W W' : World} {b k : Nat} (h : SoftB W b k) (hb : W'.heap[b]? = W.heap[b]?) : SoftB W' b k := by
  obtain ⟨cs, T, fr, h1, h2, h3⟩ := h
  exact ⟨cs, T, fr, hb.trans h1, h2, fun o => by have := h3 o; unfold World.frozen? at this ⊢; rw [hb]; exact this⟩
/-- a slice into which may be written. -/
def SoftS (W : World) (T : Nat → Prop) (A : Option Addr) (n s : Nat) : Prop := n = 0 ∨ ∃ b o, A = some ⟨b, o, none⟩ ∧ T b ∧ SoftB W b (o + n * s)
theorem SoftS.keep {W W' : World} {T T' : Nat → Prop} {A : Option Addr} {n s : Nat} (h : SoftS W T A n s) (hk : ∀ b, T b → W'.heap[b]? = W.heap[b]? ∧ T' b) : SoftS W' T' A n s := by
  rcases h with h | ⟨b, o, e, h1, h2⟩
  · exact .inl h
  · exact .inr ⟨b, o, e, (hk b h1).2, h2.same (hk b h1).1⟩
theorem SoftS.own {W : World} {base n cap s : Nat} {A : Option Addr} {e : TypeId} {xs : List Value} (h : W.ownsRow base e s (.slice A n cap) n xs) (hn : xs.length = n * s) : SoftS W (fun b => base ≤ b ∧ b < W.heap.size) A n s := by
  rcases h.2 with ⟨h1, h2⟩ | ⟨g, c, cur, h1, h2, h3, h4, h5, h6, h7⟩
  · exact .inl (by injection h1)
  · have eA : A = some ⟨g, 0, none⟩ := by injection h1
    refine .inr ⟨g, 0, eA, ⟨h2, (Array.getElem?_eq_some_iff.1 h3).1⟩, cur, _, _, h3, ?_, fun o => frozen_of_row _ _ _ _ _ h3⟩
    have h8 := congrArg List.length h7
    rw [List.length_take, hn, Array.length_toList] at h8
    omega
theorem FreshKids.soft {w : World} {lo : Nat} {A : Option Addr} {c : Nat} {ks : List AT} (h : FreshKids w lo A c ks) : SoftS w (fun b => lo ≤ b ∧ b < w.heap.size) A ks.length 22 := by
  rcases h.at_ with rfl | ⟨b', hA, h9⟩
  · exact .inl rfl
  · rcases Nat.eq_zero_or_pos ks.length with h0 | h0
    · exact .inl h0
    refine .inr ⟨b', 0, hA, ?_⟩
    have hl : ks.length - 1 < ks.length := by omega
    have ha : ks[ks.length - 1].ad = (b', (ks.length - 1) * 22) := h9 _ hl
    have e2 : ks[ks.length - 1].b = b' ∧ ks[ks.length - 1].o = (ks.length - 1) * 22 := by simpa [AT.ad] using ha
    have hmem : ks[ks.length - 1] ∈ ks.flatMap AT.all := List.mem_flatMap.2 ⟨_, List.getElem_mem hl, by obtain ⟨b, o, d, l⟩ := ks[ks.length - 1]; rw [AT.all_mk]; exact List.mem_cons_self⟩
    obtain ⟨f1, f2, f3, f4, f5, A', c', f6, -⟩ := h.ok _ hmem
    rw [e2.1] at f1 f2 f5 f6
    rw [e2.2] at f6
    refine ⟨⟨f1, f2⟩, ?_⟩
    have hcell : (w.cell? ⟨b', (ks.length - 1) * 22 + 21, none⟩).isSome = true := by rw [f6 21 (by decide)]; rfl
    obtain ⟨o, ho⟩ : ∃ o, w.heap[b']? = some o := ⟨_, Array.getElem?_eq_getElem f2⟩
    cases o with
    | cells cs T fr =>
      refine ⟨cs, T, fr, ho, ?_, f5⟩
      have hi : (ks.length - 1) * 22 + 21 < cs.size := by
        simp only [World.cell?, ho] at hcell
        by_cases hq : (ks.length - 1) * 22 + 21 < cs.size
        · exact hq
        · simp [Array.getElem?_eq_none (Nat.le_of_not_lt hq)] at hcell
      omega
    | _ => simp [World.cell?, ho] at hcell
/-- a write in new memory. -/
def CloneW (w : World) (m : Wr) (e : Ending) (w' : World) : Prop := ∃ A c Ao co, e = .returned (.agg (wrA m A c Ao co)) ∧ SlG w' (fun b _ => w.heap.size ≤ b ∧ b < w'.heap.size) A c m.x.t.l ∧ w'.ownsRow w.heap.size 28 2 (.slice Ao m.o.length co) m.o.length (ikCells m.o) ∧ Below w.heap.size w w'
/-- the same, and one may write into its lists. -/
def CloneS (w : World) (m : Wr) (e : Ending) (w' : World) : Prop := ∃ A c Ao co, e = .returned (.agg (wrA m A c Ao co)) ∧ SlG w' (fun b _ => w.heap.size ≤ b ∧ b < w'.heap.size) A c m.x.t.l ∧ w'.ownsRow w.heap.size 28 2 (.slice Ao m.o.length co) m.o.length (ikCells m.o) ∧ Below w.heap.size w w' ∧ SoftS w' (fun b => w.heap.size ≤ b ∧ b < w'.heap.size) A m.x.t.l.length 22
set_option maxRecDepth 100000 in
set_option maxHeartbeats 4000000 in
theorem rcloneS_c (m : Wr) (w : World) (A : Option Addr) (c : Nat) (Ao : Option Addr) (co : Nat) (hd : m.x.t.d.ok) (hs : SlAt w w.heap.size A c m.x.t.l) (hz : m.x.t.size ≤ 1048576) (ho : IkG w (fun k => k < w.heap.size) Ao co m.o) (hol : m.o.length ≤ 1048576) :
    Calls Tryz.prog 31 #[.agg (wrA m A c Ao co)] w (CloneS w m) := by
  obtain ⟨b, hb⟩ : ∃ b, b = w.heap.size := ⟨_, rfl⟩
  obtain ⟨CZ, hCZ⟩ : ∃ C, C = wrA zWr none 0 none 0 := ⟨_, rfl⟩
  have hCZs : CZ.size = 32 := by rw [hCZ]; rfl
  obtain ⟨W0, hW0⟩ : ∃ W0, W0 = (w.alloc (.cells (wrA m A c Ao co) 49)).alloc (.cells CZ 49) := ⟨_, rfl⟩
  have hbel : Below w.heap.size w W0 := by rw [hW0]; exact (bel2 _ _ _).1
  have hz0 : W0.heap.size = b + 2 := by rw [hW0, hb]; simp
  have hk0 : W0.heap[b]? = some (.cells (wrA m A c Ao co) 49) := by rw [hW0, hb]; exact (heapOld _ _ _ (by simp)).trans (heap_alloc_new _ _)
  have hk1 : W0.heap[b + 1]? = some (.cells CZ 49) := by
    rw [hW0, hb]
    have := heap_alloc_new (w.alloc (.cells (wrA m A c Ao co) 49)) (.cells CZ 49)
    rwa [World.size_alloc] at this
  have h31 := (wr_rows hk0).2.2.2.1
  have hcl := cloneI_c W0 (fun k => k < w.heap.size) Ao co m.o (ho.keep (fun k hk => ⟨hbel.block k hk, hk⟩)) (fun k hk => by have : k < w.heap.size := hk; omega) hol
  -- behind the ids' copy
  have hst1 : ∀ (w1 : World) (A1 : Option Addr) (c1 : Nat), Below W0.heap.size W0 w1 → w1.ownsRow W0.heap.size 28 2 (.slice A1 m.o.length c1) m.o.length (ikCells m.o) →
      (w1.cell? ⟨b, 31, none⟩ = some (.slice Ao m.o.length co) ∧ w1.frozen? ⟨b, 31, none⟩ = false) ∧ ∃ w2, w2 = w1.setCell ⟨b, 31, none⟩ (.slice A1 m.o.length c1) ∧ w2.heap[b]? = some (.cells (wrA m A c A1 c1) 49) ∧ w2.heap[b + 1]? = some (.cells CZ 49) ∧ w2.ownsRow W0.heap.size 28 2 (.slice A1 m.o.length c1) m.o.length (ikCells m.o) ∧ Below b w w2 ∧ W0.heap.size ≤ w2.heap.size := by
    intro w1 A1 c1 hb1 ho1
    have e0 := (hb1.block b (by omega)).trans hk0
    have e1 := (hb1.block (b + 1) (by omega)).trans hk1
    refine ⟨⟨(wr_rows e0).2.2.2.1, frozen_of_row _ _ _ _ _ e0⟩, _, rfl, ?_, ?_, ?_, ?_, ?_⟩
    · rw [heap_setCell_same _ _ _ _ _ _ e0, wrA_set31]
    · rw [Below.heap_setCell _ _ _ (b + 1) (by show b + 1 ≠ b; omega)]; exact e1
    · exact own_sameC ho1 (fun g cs hg hw _ => Below.heap_setCell _ _ _ g (by show g ≠ b; omega))
    · have hh := hbel.trans (hb1.mono hbel.size)
      rw [← hb] at hh
      exact ⟨hh.os, hh.tape, hh.output, by have := hh.size; simpa using this, fun k hk => (Below.heap_setCell _ _ _ k (by show k ≠ b; omega)).trans (hh.block k hk)⟩
    · have := hb1.size; simpa using this
  have hmap : ∀ w2 : World, Below b w w2 → W0.heap.size ≤ w2.heap.size → Calls Tryz.prog 58 #[nodeV m.x.t.d A m.x.t.l.length c, .nilFunc] w2 (CopyPost w2 m.x.t) := fun w2 h2 hs2 =>
    mapNil_c m.x.t w2 A c hd ((hs.below (by rw [← hb]; exact h2)).more (by omega)) hz
  -- behind the tree's copy
  have hst2 : ∀ (w2 w3 : World) (A1 : Option Addr) (c1 : Nat) (A2 : Option Addr) (c2 : Nat) (ks : List AT), w2.heap[b]? = some (.cells (wrA m A c A1 c1) 49) → w2.heap[b + 1]? = some (.cells CZ 49) → w2.ownsRow W0.heap.size 28 2 (.slice A1 m.o.length c1) m.o.length (ikCells m.o) → Below b w w2 → W0.heap.size ≤ w2.heap.size → Below w2.heap.size w2 w3 → ks.map AT.tr = m.x.t.l → FreshKids w3 w2.heap.size A2 c2 ks →
      w3.there b 9 (nodeA m.x.t.d A2 m.x.t.l.length c2).size ∧ (w3.setCells b 9 (nodeA m.x.t.d A2 m.x.t.l.length c2).toList).rangeAt b 0 (wrA m A2 c2 A1 c1).toList ∧ (w3.setCells b 9 (nodeA m.x.t.d A2 m.x.t.l.length c2).toList).heap[b + 1]? = some (.cells CZ 49) ∧
      CloneS w m (.returned (.agg (wrA m A2 c2 A1 c1))) ((w3.setCells b 9 (nodeA m.x.t.d A2 m.x.t.l.length c2).toList).setRow (b + 1) (wrA m A2 c2 A1 c1)) := by
    intro w2 w3 A1 c1 A2 c2 ks e0 e1 ho2 hb2 hs2 hb3 hks hf
    have f0 := (hb3.block b (by omega)).trans e0
    have f1 := (hb3.block (b + 1) (by omega)).trans e1
    have hth : w3.there b 9 (nodeA m.x.t.d A2 m.x.t.l.length c2).size := there_row f0 _ _ (by rw [wrA_size, nodeA_size]; decide)
    obtain ⟨-, -, -, r31, r9⟩ := wr_rows f0
    have hsame := World.rangeAt_setCells_same w3 b 9 (nodeA m.x.t.d A2 m.x.t.l.length c2).toList (by rw [Array.length_toList]; exact hth)
    have hn22 : (nodeA m.x.t.d A2 m.x.t.l.length c2).toList.length = 22 := by rw [Array.length_toList, nodeA_size]
    have hr31 : (w3.setCells b 9 (nodeA m.x.t.d A2 m.x.t.l.length c2).toList).rangeAt b 31 [.slice A1 m.o.length c1] := World.rangeAt_setCells_apart (fun j v hv => by
      match j, hv with
      | 0, hv => simp only [List.getElem?_cons_zero, Option.some.injEq] at hv; rw [← hv]; exact r31
      | j + 1, hv => simp at hv) _ _ _ (.inr (.inr (by rw [hn22]; omega)))
    have hmem : ∀ g, g ≠ b → g ≠ b + 1 → ((w3.setCells b 9 (nodeA m.x.t.d A2 m.x.t.l.length c2).toList).setRow (b + 1) (wrA m A2 c2 A1 c1)).heap[g]? = w3.heap[g]? := fun g h1 h2 => (setRow_other _ _ _ _ h2).trans (heap_setCells_far _ h1 _ _ _)
    refine ⟨hth, ?_, (heap_setCells_far _ (by omega) _ _ _).trans f1, A2, c2, A1, c1, rfl, ?_, ?_, ?_, ?_⟩
    · rw [wrA_parts]
      refine range_join (World.rangeAt_setCells_apart r9 _ _ _ (.inr (.inl (by rw [wr_head9]; omega)))) ?_
      rw [wr_head9]
      refine range_join hsame ?_
      rw [hn22]
      exact hr31
    · have hg := hf.slG
      rw [hks] at hg
      refine hg.keep (fun b' o' h => ⟨by have := h.1; omega, by simpa [sz_setCells] using h.2⟩) (fun b' o' h j _ => World.cell?_of_block (a := ⟨b', o' + j, none⟩) (hmem b' ?_ ?_)) <;> (have h1 : w2.heap.size ≤ b' := h.1; show b' ≠ _; omega)
    · refine ownsLow8 ((own_sameC ho2 (fun g cs hg hw _ => ?_)) : World.ownsRow _ W0.heap.size _ _ _ _ _) (by omega)
      have hgl := (Array.getElem?_eq_some_iff.1 hg).1
      exact (hmem g (by omega) (by omega)).trans (hb3.block g hgl)
    · have hh := hb2.trans (hb3.mono (by omega))
      rw [hb] at hh
      exact below_row (hh.trans (below_setCells2 (by omega) _ _ _)) (by omega) _
    · have hg := hf.soft
      have hkl : ks.length = m.x.t.l.length := by rw [← hks, List.length_map]
      rw [hkl] at hg
      exact hg.keep (fun b' h => ⟨hmem b' (by omega) (by omega), by omega, by simpa [sz_setCells] using h.2⟩)
  have hno : ∀ A2 c2, (Tryz.prog.info? 35).map (·.size) = some (nodeA m.x.t.d A2 m.x.t.l.length c2).size ∧ (nodeA m.x.t.d A2 m.x.t.l.length c2).all (·.oneCell') = true := fun A2 c2 => ⟨by rw [nodeA_size]; exact infN, node_one _ _ _ _⟩
  have hwo : ∀ A2 c2 A1 c1, (Tryz.prog.info? 49).map (·.size) = some (wrA m A2 c2 A1 c1).toList.length ∧ (Tryz.prog.info? 49).map (·.size) = some (wrA m A2 c2 A1 c1).size ∧ CZ.size = (wrA m A2 c2 A1 c1).size ∧ (wrA m A2 c2 A1 c1).all (·.oneCell') = true := fun A2 c2 A1 c1 => ⟨by rw [Array.length_toList]; exact infWr, infWr, by rw [hCZs, wrA_size], wrA_one _ _ _ _ _⟩
  obtain ⟨CW, hCW⟩ : ∃ C, C = wrA m A c Ao co := ⟨_, rfl⟩
  have HMAP := Lib.hid hmap
  have HCL := Lib.hid hcl
  have HS1 := Lib.hid hst1
  have HS2 := Lib.hid hst2
  have HNO := Lib.hid hno
  have HWO := Lib.hid hwo
  have HW0 := Lib.hid hW0
  have HB := Lib.hid hb
  have HCZ := Lib.hid hCZ
  have HRW := Lib.hid (fun (wz : World) (A1 : Option Addr) (c1 : Nat) (h : wz.heap[b]? = some (.cells (wrA m A c A1 c1) 49)) => (wr_rows h).2.2.1)
  have HINL := Lib.hid (show (Tryz.prog.info? 35).map (·.size) = some (nodeA m.x.t.d A m.x.t.l.length c).toList.length from infNl _ _ _ _)
  obtain ⟨N, hN⟩ : ∃ N, N = nodeA m.x.t.d A m.x.t.l.length c := ⟨_, rfl⟩
  unfold nodeV at HMAP
  rw [← hN] at HINL HRW HMAP
  rw [← hCW] at HW0 ⊢
  clear hmap hcl hst1 hst2 hno hwo hW0 hb hCZ hCZs hbel hz0 hk0 hk1 hN hCW hs hd hz ho hol
  go_enter Tryz.func31, Tryz.ntmps31
  go_upto_region 1 with (refine wpList_wrVar rfl rfl (w.heap.size + 1) (by simp) ?_)
  change Code.wp _ _ _ _ ((w.alloc (.cells CW 49)).alloc (.cells (wrA zWr none 0 none 0) 49))
  rw [← HCZ.out, ← HW0.out, ← HB.out]
  go_upto_region 2 with (first | (go_at_call 57; refine HCL.out.mono ?_; rintro e w1 ⟨A1, c1, rfl, ho1, hb1⟩; obtain ⟨⟨hq1, hq2⟩, w2, hw2, hk2, hk2', ho2, hb2, hz2⟩ := HS1.out w1 A1 c1 hb1 ho1; have HW2 := Lib.hid hw2; have HX2 := Lib.hid (And.intro hk2 (And.intro hk2' (And.intro ho2 (And.intro hb2 hz2)))); clear hw2 hk2 hk2' ho2 hb2 hz2 ho1 hb1) | fail)
  clear hq1 hq2 h31
  rw [← HW2.out]
  have HR2 := Lib.hid (HRW.out w2 A1 c1 HX2.out.1)
  have HM2 := Lib.hid (HMAP.out w2 HX2.out.2.2.2.1 HX2.out.2.2.2.2)
  clear HMAP HRW
  go_upto_region 3 with (first | (refine wpList_mid rfl 35 _ rfl b 9 rfl N.toList _ HR2.out undN rfl HINL.out ?_; simp only [Array.toArray_toList]) | (go_at_call 58; refine HM2.out.mono ?_; rintro e w3 ⟨A2, c2, ks, rfl, hk5, hf5, hb5⟩; have hs2 := HS2.out w2 w3 A1 c1 A2 c2 ks HX2.out.1 HX2.out.2.1 HX2.out.2.2.1 HX2.out.2.2.2.1 HX2.out.2.2.2.2 hb5 hk5 hf5; obtain ⟨N2, hN2⟩ : ∃ N2, N2 = nodeA m.x.t.d A2 m.x.t.l.length c2 := ⟨_, rfl⟩; obtain ⟨CY, hCY⟩ : ∃ CY, CY = wrA m A2 c2 A1 c1 := ⟨_, rfl⟩; obtain ⟨w4, hw4⟩ : ∃ w4, w4 = w3.setCells b 9 (nodeA m.x.t.d A2 m.x.t.l.length c2).toList := ⟨_, rfl⟩; rw [← hw4, ← hN2, ← hCY] at hs2; have HN := Lib.hid (show (Tryz.prog.info? 35).map (·.size) = some N2.size ∧ N2.all (·.oneCell') = true from (by rw [hN2]; exact HNO.out A2 c2)); have HC := Lib.hid (show (Tryz.prog.info? 49).map (·.size) = some CY.toList.length ∧ (Tryz.prog.info? 49).map (·.size) = some CY.size ∧ CZ.size = CY.size ∧ CY.all (·.oneCell') = true from (by rw [hCY]; exact HWO.out A2 c2 A1 c1)); rw [← hN2] at hw4; have HP := Lib.hid hs2; rw [nodeV, ← hN2]; have HW4 := Lib.hid hw4; clear hk5 hf5 hb5 hN2 hCY hw4 hs2) | (refine wpList_store_mid rfl 35 _ _ rfl b 9 N2 rfl rfl HP.out.1 HN.out.1 HN.out.2 ?_; rw [← HW4.out]) | fail)
  go_wp2_with (first | (refine wpList_mid rfl 49 _ rfl b 0 rfl CY.toList _ HP.out.2.1 undWr rfl HC.out.1 ?_; simp only [Array.toArray_toList]) | (refine wpList_store_row rfl 49 _ _ rfl (b + 1) CY rfl rfl 49 CZ HP.out.2.2.1 HC.out.2.1 HC.out.2.2.1 HC.out.2.2.2 ?_) | fail)
  refine bodyPost_ret (v := .agg CY) (results_cell_row rfl _ _ (b + 1) 49 CY (0, 0) _ rfl (setRow_heap _ _ _ _ _ _ HP.out.2.2.1) undWr rfl HC.out.2.1) rfl ?_
  exact HP.out.2.2.2
theorem rclone_c (m : Wr) (w : World) (A : Option Addr) (c : Nat) (Ao : Option Addr) (co : Nat) (hd : m.x.t.d.ok) (hs : SlAt w w.heap.size A c m.x.t.l) (hz : m.x.t.size ≤ 1048576) (ho : IkG w (fun k => k < w.heap.size) Ao co m.o) (hol : m.o.length ≤ 1048576) :
    Calls Tryz.prog 31 #[.agg (wrA m A c Ao co)] w (CloneW w m) :=
  (rcloneS_c m w A c Ao co hd hs hz ho hol).mono fun _ _ ⟨A', c', Ao', co', h1, h2, h3, h4, _⟩ => ⟨A', c', Ao', co', h1, h2, h3, h4⟩
end Go.Proofs.YtbiacjkkgddclaaGreat
namespace Go.Proofs.YtbiacjkkgddclaaGreat
set_option linter.unusedSimpArgs false
set_option linter.unusedVariables false
open Go Go.RowKit Go.Shelf Go.Maps

/-- a register with a map, in a zone. -/
def RgM (W : World) (p n : Nat) (M : List Wr) (Z : Nat → Prop) : Prop :=
  ∃ b D T, RgAt W p (some b) n D ∧ RepW W T D M ∧ Z p ∧ Z b ∧ ∀ k, T k → Z k ∧ k ≠ p ∧ k ≠ b ∧ k < W.heap.size
theorem RgM.z {W : World} {p n : Nat} {M : List Wr} {Z : Nat → Prop} (h : RgM W p n M Z) : RgZ W p n M Z := by
  obtain ⟨b, D, T, h1, h3, h4, h5, h6⟩ := h
  exact ⟨some b, D, T, h1, h3, h4, fun k e => by cases e; exact h5, fun k hk => ⟨(h6 k hk).1, (h6 k hk).2.1, fun e => (h6 k hk).2.2.1 (Option.some.inj e).symm, (h6 k hk).2.2.2⟩⟩
theorem RgM.keep {W W' : World} {p n : Nat} {M : List Wr} {Z Z' : Nat → Prop} (h : RgM W p n M Z) (hk : KeepZ Z' W W') (hd : ∀ k, Z k → ¬ Z' k) : RgM W' p n M Z := by
  obtain ⟨b, D, T, h1, h3, h4, h5, h6⟩ := h
  have hb : b < W.heap.size := by obtain ⟨es, clock, e1, e2⟩ := h1.2; exact (Array.getElem?_eq_some_iff.1 e1).1
  refine ⟨b, D, T, h1.keep (hk.block p (Array.getElem?_eq_some_iff.1 h1.1).1 (hd p h4)) (fun k e => by cases e; exact hk.block b hb (hd b h5)), h3.keep (fun _ h => h) (fun k hk' => hk.block k (h6 k hk').2.2.2 (hd k (h6 k hk').1)), h4, h5, fun k hk' => ⟨(h6 k hk').1, (h6 k hk').2.1, (h6 k hk').2.2.1, Nat.lt_of_lt_of_le (h6 k hk').2.2.2 hk.size⟩⟩
theorem RgM.below {W W' : World} {p n : Nat} {M : List Wr} {Z : Nat → Prop} (h : RgM W p n M Z) (hb : Below W.heap.size W W') : RgM W' p n M Z := h.keep (Z' := fun _ => False) (KeepZ.of hb) (fun _ _ h => h)
theorem RgM.zone {W : World} {p n : Nat} {M : List Wr} {Z Z' : Nat → Prop} (h : RgM W p n M Z) (hz : ∀ b, Z b → Z' b) : RgM W p n M Z' := by
  obtain ⟨b, D, T, h1, h3, h4, h5, h6⟩ := h
  exact ⟨b, D, T, h1, h3, hz _ h4, hz _ h5, fun k hk => ⟨hz k (h6 k hk).1, (h6 k hk).2⟩⟩
theorem RgM.more {W : World} {p n n' : Nat} {M : List Wr} {Z : Nat → Prop} (h : RgM W p n M Z) (hn : n ≤ n') : RgM W p n' M Z := by
  obtain ⟨b, D, T, ⟨h1, h2⟩, h3, h4⟩ := h
  exact ⟨b, D, T, ⟨h1, World.ownsMap.mono h2 hn⟩, h3, h4⟩
theorem zero_wr (W : World) : (zeroValue 49).run Tryz.prog W = .ok (.agg (wrA zWr none 0 none 0)) W := by kernel_rfl
theorem look_wr {W : World} {p : Nat} {m : Option Nat} {n : Nat} {D : DataW Value} (h : RgAt W p m n D) (a : Ik) (ha : a.ok) : ∃ cs : Array Value, (Instr.lookup 64 (.map m) a.val true).run Tryz.prog W = .ok (.tuple #[.agg cs, .bool (Maps.has D a.key)]) W ∧ D.atKey a.key (.held (.agg (wrA zWr none 0 none 0))) = .held (.agg cs) ∧ cs.size = 32 ∧ cs.all (·.oneCell') = true := by
  have h2 := h.2
  cases m with
  | none =>
    obtain rfl : D = .map [] := h2
    exact ⟨wrA zWr none 0 none 0, Maps.look_nil true ik_law undMw (zero_wr W) (ik_key a ha), rfl, rfl, wrA_one _ _ _ _ _⟩
  | some b =>
    have ho : W.ownsMap Tryz.prog 28 heldW b n D := h2
    obtain ⟨v, ps, hr, hv⟩ := ho.look_ok ik_law undMw (zero_wr W) (zd := .held (.agg (wrA zWr none 0 none 0))) (zp := []) (heldW_wr _ _ _ _ _) (ik_key a ha)
    obtain ⟨cs, rfl, h1, h2, h3⟩ := heldW_inv hv
    exact ⟨cs, hr, h3, h1, h2⟩
theorem lk_runW {o : Oper} {ρ : Operand → Value} {w : World} (x y : Operand) (ok : Bool) (ho : o.op = .lookup 64 x y ok) {mv kv v : Value} (hx : ρ x = mv) (hy : ρ y = kv) (hr : (Instr.lookup 64 mv kv ok).run Tryz.prog w = .ok v w) : (execOp ρ o).run Tryz.prog w = .ok (.value v) w := by
  unfold execOp
  simp only [ho, hx, hy, Sem.run_bind, hr, Result.andThen_ok, Sem.run_pure]
theorem ld_mw {o : Oper} {ρ : Operand → Value} {w : World} (x : Operand) (ho : o.op = .load 64 x) (p : Addr) (hx : ρ x = .pointer (some p)) (v : Value) (hc : w.cell? p = some v) : (execOp ρ o).run Tryz.prog w = .ok (.value v) w := by
  unfold execOp
  simp only [ho, hx]
  simp [go_sem, hc]
theorem eqMapW (w : World) (g : Nat) : (binOp .eql 64 (.map (some g)) (.map none)).run Tryz.prog w = .ok (.bool false) w := by kernel_rfl
section
variable {md : Region.Mode} {ops : Array Oper} {Q : Exit → Act → World → Prop} {S : World → Prop}
theorem wp_run {P : Program} {o : Oper} {a : Act} {w w' : World} {v : Value} {K : Act → World → Prop} (hr : (execOp a.eval o).run P w = .ok (.value v) w') (h : K (a.put o.dst v) w') : Oper.wp P o a w K Q := by
  simp only [Oper.wp, hr, Oper.upon]; exact h
/-- a variable for a write is laid, where nothing else may come up. -/
theorem wpAnyH_wrVar {i : Nat} {o : Oper} {fuel : Nat} {listed : Array Bool} {a : Act} {w : World} (hr : Region.ready md ops listed = [i]) (ho : ops[i]? = some o) (hg : o.guard = none) (hop : o.op = .alloc 49) (g : Nat) (hz : w.heap.size = g)
    (hS : S (w.alloc (.cells (wrA zWr none 0 none 0) 49))) (h : S (w.alloc (.cells (wrA zWr none 0 none 0) 49)) → wpAnyH Tryz.prog md ops Q S fuel (listed.setIfInBounds i true) (a.put o.dst (.pointer (some ⟨g, 0, none⟩))) (w.alloc (.cells (wrA zWr none 0 none 0) 49))) : wpAnyH Tryz.prog md ops Q S (fuel + 1) listed a w := by
  subst hz
  refine wpAnyH_ready hr (by simp) (AllReadyH.cons ho (fun K hK => ?_) AllReadyH.nil)
  rw [if_pos (wanted_none hg)]
  refine wp_run ?_ (hK.out _ _ hS h)
  unfold execOp
  simp only [hop]
  kernel_rfl
/-- it is written, where nothing else may come up. -/
theorem wpAnyH_storeFresh {i : Nat} {o : Oper} {fuel : Nat} {listed : Array Bool} {a : Act} {w : World} {old : Array Value} {t : TypeId} (hr : Region.ready md ops listed = [i]) (ho : ops[i]? = some o) (hg : o.guard = none) (ty : TypeId) (x y : Operand) (hop : o.op = .store ty x y)
    (g : Nat) (hz : w.heap.size = g) (cells : Array Value) (hx : a.eval x = .pointer (some ⟨g, 0, none⟩)) (hy : a.eval y = .agg cells) (hi : (Tryz.prog.info? ty).map (·.size) = some cells.size) (hold : old.size = cells.size) (h1 : cells.all (·.oneCell') = true)
    (hS : S (w.alloc (.cells cells t))) (h : S (w.alloc (.cells cells t)) → wpAnyH Tryz.prog md ops Q S fuel (listed.setIfInBounds i true) (a.put o.dst undef) (w.alloc (.cells cells t))) : wpAnyH Tryz.prog md ops Q S (fuel + 1) listed a (w.alloc (.cells old t)) := by
  subst hz
  refine wpAnyH_ready hr (by simp) (AllReadyH.cons ho (fun K hK => ?_) AllReadyH.nil)
  rw [if_pos (wanted_none hg)]
  refine wp_store_row ty x y hop w.heap.size cells hx hy t old (World.alloc_heap_new w _) hi hold h1 ?_
  rw [alloc_setRow]
  exact hK.out _ _ hS h
/-- 'm[k] = v', where nothing else may come up. -/
theorem wpAnyH_putW {i : Nat} {o : Oper} {fuel : Nat} {listed : Array Bool} {a : Act} {w : World} (hr : Region.ready md ops listed = [i]) (ho : ops[i]? = some o) (hg : o.guard = none) (x y z : Operand) (hop : o.op = .mapUpdate 64 x y z)
    (g n : Nat) (D : DataW Value) (hx : a.eval x = .map (some g)) (ad : Ik) (had : ad.ok) (hy : a.eval y = ad.val) (m : Wr) (A : Option Addr) (cc : Nat) (Ao : Option Addr) (co : Nat) (hz : a.eval z = .agg (wrA m A cc Ao co)) (hn : n < maxLen) (hown : w.ownsMap Tryz.prog 28 heldW g n D)
    (hS : ∀ w', w.grownBy w' (some g) → S w') (h : ∀ w', w'.ownsMap Tryz.prog 28 heldW g (n + 1) (D.put ad.key (.held (.agg (wrA m A cc Ao co)))) → w.grownBy w' (some g) → S w' → wpAnyH Tryz.prog md ops Q S fuel (listed.setIfInBounds i true) (a.put o.dst undef) w') : wpAnyH Tryz.prog md ops Q S (fuel + 1) listed a w := by
  refine wpAnyH_ready hr (by simp) (AllReadyH.cons ho (fun K hK => ?_) AllReadyH.nil)
  rw [if_pos (wanted_none hg)]
  obtain ⟨w', hrun, h1, h2⟩ := hown.update ik_law undMw hn (ik_key ad had) (heldW_wr m A cc Ao co)
  have hf := hK.out _ _ (hS w' h2) (h w' h1 h2)
  unfold Oper.wp
  simp [execOp, hop, hx, hy, hz, hrun, Result.andThen]
  exact hf
end
theorem own_map_below {w w' : World} {g n : Nat} {D : DataW Value} (h : w.ownsMap Tryz.prog 28 heldW g n D) (hb : Below w.heap.size w w') : w'.ownsMap Tryz.prog 28 heldW g n D := by
  obtain ⟨es, clock, e1, e2⟩ := h
  exact ⟨es, clock, (hb.block g (Array.getElem?_eq_some_iff.1 e1).1).trans e1, e2⟩
end Go.Proofs.YtbiacjkkgddclaaGreat
namespace Go.Proofs.YtbiacjkkgddclaaGreat
set_option linter.unusedSimpArgs false
set_option linter.unusedVariables false
open Go Go.RowKit Go.Shelf Go.Maps

/-- a slice of writes: its row lies in G, their trees and what they were written over in T. -/
def RowW (w : World) (G T : Nat → Prop) (A : Option Addr) (c : Nat) (l : List Wr) : Prop :=
  l.length ≤ c ∧ c ≤ 9223372036854775807 ∧ (l = [] ∨ ∃ b o, A = some ⟨b, o, none⟩ ∧ G b ∧ ∀ j (h : j < l.length), ∃ A' c' Ao co, w.rangeAt b (o + j * 32) (wrA l[j] A' c' Ao co).toList ∧ SlG w (fun b _ => T b) A' c' l[j].x.t.l ∧ IkG w T Ao co l[j].o)
theorem RowW.nil (w : World) (G T : Nat → Prop) (A : Option Addr) (c : Nat) (hc : c ≤ 9223372036854775807) : RowW w G T A c [] := ⟨Nat.zero_le _, hc, .inl rfl⟩
theorem RowW.keep {w w' : World} {G G' T T' : Nat → Prop} {A : Option Addr} {c : Nat} {l : List Wr} (h : RowW w G T A c l) (hg : ∀ k, G k → w'.heap[k]? = w.heap[k]? ∧ G' k) (ht : ∀ k, T k → w'.heap[k]? = w.heap[k]? ∧ T' k) : RowW w' G' T' A c l := by
  obtain ⟨h1, h2, h3⟩ := h
  refine ⟨h1, h2, h3.elim .inl ?_⟩
  rintro ⟨b, o, e, hl, h4⟩
  refine .inr ⟨b, o, e, (hg b hl).2, fun j hj => ?_⟩
  obtain ⟨A', c', Ao, co, h5, h6, h7⟩ := h4 j hj
  exact ⟨A', c', Ao, co, fun i v hv => (World.cell?_of_block (a := ⟨b, o + j * 32 + i, none⟩) (hg b hl).1).trans (h5 i v hv), h6.keep (fun b _ hb => (ht b hb).2) (fun b o' hb i _ => World.cell?_of_block (a := ⟨b, o' + i, none⟩) (ht b hb).1), h7.keep ht⟩
/-- a write, and where it lies. -/
structure Wn where
  m : Wr
  A : Option Addr
  c : Nat
  Ao : Option Addr
  co : Nat
def Wn.cells (h : Wn) : List Value := (wrA h.m h.A h.c h.Ao h.co).toList
theorem Wn.cells_len (h : Wn) : h.cells.length = 32 := by unfold Wn.cells; rw [Array.length_toList, wrA_size]
theorem Wn.cells_one (h : Wn) : ∀ u ∈ h.cells, u.oneCell' = true := by
  intro u hu
  have := wrA_one h.m h.A h.c h.Ao h.co
  rw [Array.all_eq_true_iff_forall_mem] at this
  exact this u (by simpa [Wn.cells] using hu)
theorem flatMap_get32 {α : Type} (enc : α → List Value) (h4 : ∀ x, (enc x).length = 32) : ∀ (l : List α) (j : Nat), (l.flatMap enc)[j]? = (l[j / 32]?).bind fun x => (enc x)[j % 32]?
  | [], j => by simp
  | a :: l, j => by
    rw [List.flatMap_cons]
    by_cases h : j < 32
    · rw [List.getElem?_append_left (by rw [h4]; exact h), show j / 32 = 0 by omega, show j % 32 = j by omega]
      simp
    · rw [List.getElem?_append_right (by rw [h4]; omega), h4, flatMap_get32 enc h4 l (j - 32), show j / 32 = (j - 32) / 32 + 1 by omega, show j % 32 = (j - 32) % 32 by omega, List.getElem?_cons_succ]
/-- a row of writes that is being laid; t: the type of its elements. -/
structure OthR (t : TypeId) (base : Nat) (w1 : World) (T : Nat → Prop) (pre : List Wn) (A : Option Addr) (k cap : Nat) (W : World) : Prop where
  below : Below base w1 W
  own : W.ownsRow base t 32 (.slice A k cap) k (pre.flatMap Wn.cells)
  len : k = pre.length
  zone : ∀ b, T b → b < W.heap.size ∧ (Value.slice A k cap).ownBlock ≠ some b
  trees : ∀ h ∈ pre, SlG W (fun b _ => T b) h.A h.c h.m.x.t.l ∧ IkG W T h.Ao h.co h.m.o
theorem OthR.start (t : TypeId) {base : Nat} {w1 W : World} (h : Below base w1 W) : OthR t base w1 (fun _ => False) [] none 0 0 W := ⟨h, ⟨rfl, .inl ⟨rfl, rfl⟩⟩, rfl, fun _ h => h.elim, fun _ h => (List.not_mem_nil h).elim⟩
theorem OthR.kept {t : TypeId} {base k cap : Nat} {w1 W W' : World} {T : Nat → Prop} {pre : List Wn} {A : Option Addr} (h : OthR t base w1 T pre A k cap W) (hb : Below W.heap.size W W') (hw : base ≤ w1.heap.size) : OthR t base w1 T pre A k cap W' :=
  ⟨h.below.trans (hb.mono (by have := h.below.size; omega)), own_sameC h.own (fun g cs hc _ _ => hb.block g (Array.getElem?_eq_some_iff.1 hc).1), h.len, fun b hb' => ⟨Nat.lt_of_lt_of_le (h.zone b hb').1 hb.size, (h.zone b hb').2⟩, fun x hx => ⟨(h.trees x hx).1.keep (fun _ _ h => h) (fun b o hb' j _ => World.cell?_of_block (a := ⟨b, o + j, none⟩) (hb.block b (h.zone b hb').1)), (h.trees x hx).2.keep (fun k hk => ⟨hb.block k (h.zone k hk).1, hk⟩)⟩⟩
theorem OthR.step {t : TypeId} {base k cap g3 cap3 : Nat} {w1 W W4 : World} {T T' : Nat → Prop} {pre : List Wn} {A : Option Addr} {x : Wn} {o : Obj} (h : OthR t base w1 T pre A k cap W) (hw : base ≤ w1.heap.size) (hTT : ∀ b, T b → T' b) (hT' : ∀ b, T' b → b < W.heap.size ∧ (Value.slice A k cap).ownBlock ≠ some b) (hx : SlG W (fun b _ => T' b) x.A x.c x.m.x.t.l ∧ IkG W T' x.Ao x.co x.m.o)
    (hg : (W.alloc o).grownBy W4 (Value.slice A k cap).ownBlock) (hat : (Value.slice A k cap).ownBlock = some g3 ∨ g3 = W.heap.size + 1) (ho : W4.ownsRow base t 32 (.slice (some ⟨g3, 0, none⟩) (k + 1) cap3) (k + 1) (pre.flatMap Wn.cells ++ x.cells)) : OthR t base w1 T' (pre ++ [x]) (some ⟨g3, 0, none⟩) (k + 1) cap3 W4 := by
  have hs := h.below.size
  have hob := own_blkC h.own
  have hsz : W.heap.size + 1 ≤ W4.heap.size := by have := hg.size; rwa [World.size_alloc] at this
  have hbl : Below base W W4 := ⟨hg.os, hg.tape, hg.output, by omega, fun j hj => (hg.block j (by rw [World.size_alloc]; omega) (fun e => by have := (hob j e.symm).1; omega)).trans (heapOld _ _ _ (by omega))⟩
  have hk : ∀ b, T' b → W4.heap[b]? = W.heap[b]? := fun b hb => (hg.block b (by rw [World.size_alloc]; have := (hT' b hb).1; omega) (fun e => (hT' b hb).2 e.symm)).trans (heapOld _ _ _ (hT' b hb).1)
  refine ⟨h.below.trans hbl, by rw [List.flatMap_append, List.flatMap_singleton]; exact ho, by rw [List.length_append, List.length_singleton, h.len], fun b hb => ⟨by have := (hT' b hb).1; omega, fun e => ?_⟩, fun y hy => ?_⟩
  · have e : g3 = b := by simpa [Value.ownBlock] using e
    rcases hat with hat | hat
    · exact (hT' b hb).2 (by rw [hat, e])
    · have := (hT' b hb).1; omega
  · have hxy : SlG W (fun b _ => T' b) y.A y.c y.m.x.t.l ∧ IkG W T' y.Ao y.co y.m.o := by
      rcases List.mem_append.1 hy with hy | hy
      · exact ⟨(h.trees y hy).1.keep (fun b _ hb => hTT b hb) (fun _ _ _ _ _ => rfl), (h.trees y hy).2.keep (fun k hk => ⟨rfl, hTT k hk⟩)⟩
      · rw [List.mem_singleton] at hy; subst hy; exact hx
    exact ⟨hxy.1.keep (fun _ _ h => h) (fun b o hb j _ => World.cell?_of_block (a := ⟨b, o + j, none⟩) (hk b hb)), hxy.2.keep (fun k hk' => ⟨hk k hk', hk'⟩)⟩
theorem OthR.row {t : TypeId} {base k cap : Nat} {w1 W : World} {T : Nat → Prop} {pre : List Wn} {A : Option Addr} (h : OthR t base w1 T pre A k cap W) : RowW W (fun g => base ≤ g ∧ g < W.heap.size ∧ (Value.slice A k cap).ownBlock = some g) T A cap (pre.map Wn.m) := by
  have hl := h.len
  have hparts : k ≤ cap ∧ cap ≤ 9223372036854775807 := by
    rcases h.own.2 with ⟨e, -⟩ | ⟨g, c, cur, e, e2, e3, e4, e5, -⟩
    · have e0 : k = 0 := by injection e
      have ec : cap = 0 := by injection e
      exact ⟨by omega, by omega⟩
    · have ec : cap = c := by injection e
      exact ⟨by omega, by rw [ec]; exact Nat.le_trans e5 (by decide)⟩
  refine ⟨by rw [List.length_map]; omega, hparts.2, ?_⟩
  by_cases hM : pre = []
  · exact .inl (by rw [hM]; rfl)
  right
  have hpos : 0 < pre.length := List.length_pos_iff.2 hM
  obtain ⟨g, c, cur, e, e2, e3, e4, e5, e6, e7⟩ : ∃ g c cur, (Value.slice A k cap) = .slice (some ⟨g, 0, none⟩) k c ∧ base ≤ g ∧ W.heap[g]? = some (.cells cur t) ∧ _ := by
    rcases h.own.2 with q | q
    · have : k = 0 := by injection q.1
      omega
    · exact q
  have eA : A = some ⟨g, 0, none⟩ := by injection e
  subst eA
  refine ⟨g, 0, rfl, ⟨e2, (Array.getElem?_eq_some_iff.1 e3).1, rfl⟩, fun j hj => ?_⟩
  rw [List.length_map] at hj
  simp only [List.getElem_map]
  obtain ⟨t1, t2⟩ := h.trees _ (List.getElem_mem hj)
  refine ⟨pre[j].A, pre[j].c, pre[j].Ao, pre[j].co, fun i u hu => ?_, t1, t2⟩
  have hi : i < 32 := by have := (List.getElem?_eq_some_iff.1 hu).1; rwa [Array.length_toList, wrA_size] at this
  have := own_cellC h.own rfl (j * 32 + i) u (by
    rw [flatMap_get32 Wn.cells Wn.cells_len, show (j * 32 + i) / 32 = j by omega, show (j * 32 + i) % 32 = i by omega, List.getElem?_eq_getElem hj, Option.bind_some]
    exact hu)
  rwa [Nat.zero_add]
theorem infoWr3 (T : TypeId) (hT : T = 49 ∨ T = 46) : (Tryz.prog.info? T).map (fun i => (i.zero.map (fun z => z.cells.size), i.size, i.bytes)) = some (some 32, 32, 296) := by
  rcases hT with rfl | rfl <;> (show _ = _; kernel_rfl)
theorem infoWr_parts (T : TypeId) (hT : T = 49 ∨ T = 46) : ∃ ti z, Tryz.prog.info? T = some ti ∧ ti.zero = some z ∧ z.cells.size = 32 ∧ ti.size = 32 ∧ ti.bytes = 296 := by
  have h := infoWr3 T hT
  cases hi : Tryz.prog.info? T with
  | none => rw [hi] at h; cases h
  | some ti =>
    rw [hi] at h
    simp only [Option.map_some, Option.some.injEq, Prod.mk.injEq] at h
    obtain ⟨h1, h2, h3⟩ := h
    cases hz : ti.zero with
    | none => rw [hz] at h1; cases h1
    | some z => rw [hz] at h1; exact ⟨ti, z, rfl, hz, by simpa using h1, h2, h3⟩
theorem undWrs : Tryz.prog.underlying 54 = some (.slice 49) := by kernel_rfl
theorem undRws : Tryz.prog.underlying 22 = some (.slice 46) := by kernel_rfl
/-- `[]T{x}` of writes, at one operation. -/
theorem step_oneWr (T Ts : TypeId) (hT : T = 49 ∨ T = 46) (hTs : Tryz.prog.underlying Ts = some (.slice T)) {ops : Array Oper} {o : Oper} {a : Act} {w : World} {K : Act → World → Prop} {Q : Exit → Act → World → Prop} {E : Prop} (hg : o.guard = none) (i : Nat) (ho : o.op = .buildSlice Ts 1 #[(0, .tmp i)]) (N : Array Value) (hev : a.eval (.tmp i) = .agg N) (hn : N.size = 32)
    (h : K (a.put o.dst (.slice (some ⟨w.heap.size, 0, none⟩) 1 1)) (w.alloc (.cells N T))) : if Region.wanted o (yielded ops a.tmps) = true then Oper.wp Tryz.prog o a w K Q else E := by
  have hw : Region.wanted o (yielded ops a.tmps) = true := by simp [Region.wanted, hg]
  rw [if_pos hw]
  obtain ⟨ie, z, hie, hzz, -, hsz, hby⟩ := infoWr_parts T hT
  refine wp_buildSlice Ts T 1 #[(0, .tmp i)] ho N ie z hTs hie hzz (by rw [hsz]; decide) (by rw [hsz]; decide) ?_ h
  have e1 : ((#[(0, Operand.tmp i)] : Array (Nat × Operand)).map fun (i, x) => (i, a.eval x)).toList = (([Value.agg N]).zipIdx 0).map fun x => (x.2, x.1) := by simp [hev]
  have e2 : ([Value.agg N].flatMap fun v => v.cells.toList).toArray = N := by simp [Value.cells]
  rw [e1, hsz]
  have := Great.fill_whole (s := 32) (by decide) [Value.agg N] ((Array.range (1 * 32)).map (z.cells[· % z.cells.size]!)) (fun v hv => by simp only [List.mem_singleton] at hv; subst hv; exact hn) (by simp)
  rw [e2] at this
  exact this
end Go.Proofs.YtbiacjkkgddclaaGreat
