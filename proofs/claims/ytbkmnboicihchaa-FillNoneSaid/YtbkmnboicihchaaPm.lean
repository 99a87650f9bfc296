/- Trees that are being copied, in memory. -/
import Derived.Test.YtbkmnboicihchaaPy
import Derived.Test.YtbkmnboicihchaaNd
namespace Go.Proofs.Ytbkmnboicihchaa
set_option linter.unusedSimpArgs false
set_option linter.unusedVariables false
open Go.RowKit Go.Shelf

/-- a node of the copy lies in memory: new memory from block lo on; an old list lies in W0, below lo. -/
def ItOk (W0 : World) (lo : Nat) (w : World) (x : It) : Prop :=
  lo ≤ x.b ∧ x.b < w.heap.size ∧ x.o % 22 = 0 ∧ x.d.ok ∧ (∀ o, w.frozen? ⟨x.b, o, none⟩ = false) ∧ ∃ A c, NodeCells w x.b x.o x.d A (x.p.length + x.ks.length) c ∧ x.p.length + x.ks.length ≤ c ∧ c ≤ 9223372036854775807 ∧
    (x.p = [] ∨ ∃ b' o', A = some ⟨b', o', none⟩ ∧ KidsAt W0 lo b' o' x.p) ∧ (x.ks = [] ∨ ∃ b', A = some ⟨b', 0, none⟩ ∧ ∀ i (h : i < x.ks.length), x.ks[i] = (b', i * 22))
theorem ItOk.keep {W0 w w' : World} {lo : Nat} {x : It} (h : ItOk W0 lo w x) (hs : w.heap.size ≤ w'.heap.size) (hc : ∀ j, j < 22 → w'.cell? ⟨x.b, x.o + j, none⟩ = w.cell? ⟨x.b, x.o + j, none⟩) (hf : ∀ o, w'.frozen? ⟨x.b, o, none⟩ = w.frozen? ⟨x.b, o, none⟩) : ItOk W0 lo w' x := by
  obtain ⟨h1, h2, h3, h4, h5, A, c, h6, h7⟩ := h
  exact ⟨h1, by omega, h3, h4, fun o => (hf o).trans (h5 o), A, c, fun j hj => (hc j hj).trans (h6 j hj), h7⟩
theorem ItOk.block {W0 w w' : World} {lo : Nat} {x : It} (h : ItOk W0 lo w x) (hs : w.heap.size ≤ w'.heap.size) (hb : w'.heap[x.b]? = w.heap[x.b]?) : ItOk W0 lo w' x :=
  h.keep hs (fun j _ => World.cell?_of_block (a := ⟨x.b, x.o + j, none⟩) hb) (fun o => by unfold World.frozen?; rw [hb])
theorem ItOk.below {W0 w w' : World} {lo : Nat} {x : It} (h : ItOk W0 lo w x) (hb : Below w.heap.size w w') : ItOk W0 lo w' x := h.block hb.size (hb.block x.b h.2.1)
theorem heap_setCell_other (w : World) (a : Addr) (v : Value) (g : Nat) (h : g ≠ a.block) : (w.setCell a v).heap[g]? = w.heap[g]? := by
  simp [World.setCell, Array.getElem?_modify, Ne.symm h]
theorem size_setCell (w : World) (a : Addr) (v : Value) : (w.setCell a v).heap.size = w.heap.size := by simp [World.setCell]
/-- a list of another node is laid: nothing becomes of this one. -/
theorem ItOk.other {W0 w : World} {lo : Nat} {x : It} (h : ItOk W0 lo w x) {b o : Nat} (ho : o % 22 = 0) (hn : x.ad ≠ (b, o)) (v : Value) : ItOk W0 lo (w.setCell ⟨b, o + 21, none⟩ v) x := by
  refine h.keep (by rw [size_setCell]; exact Nat.le_refl _) (fun j hj => World.cell?_setCell_other _ _ _ _ (fun e => hn ?_)) (fun o' => World.frozen?_setCell _ _ _ _)
  simp only [Addr.mk.injEq, and_true] at e
  have h3 := h.2.2.1
  simp only [It.ad, Prod.mk.injEq]
  omega
/-- the last cell of a node is laid anew. -/
theorem NodeCells.last {w : World} {b o : Nat} {d : ND} {A A' : Option Addr} {n c n' c' : Nat} (h : NodeCells w b o d A n c) : NodeCells (w.setCell ⟨b, o + 21, none⟩ (.slice A' n' c')) b o d A' n' c' := by
  intro j hj
  by_cases hj2 : j = 21
  · subst hj2
    rw [World.cell?_setCell_same (u := .slice A n c) _ _ _ (h 21 (by decide))]
    rfl
  · rw [World.cell?_setCell_other _ _ _ _ (fun e => by simp only [Addr.mk.injEq, and_true] at e; omega), h j hj]
    have e : ∀ (A : Option Addr) (n c : Nat), (nodeA d A n c)[j]? = d.head[j]? := fun A n c => by
      have h1 : (nodeA d A n c)[j]? = (d.head ++ [Value.slice A n c])[j]? := by simp [nodeA]
      have hl : d.head.length = 21 := rfl
      rw [h1, List.getElem?_append_left (by rw [hl]; omega)]
    rw [e, e]
/-- an empty list is forgotten. -/
theorem ItOk.nil {W0 w : World} {lo : Nat} {x : It} (h : ItOk W0 lo w x) (hp : x.p = []) (hk : x.ks = []) : ItOk W0 lo (w.setCell ⟨x.b, x.o + 21, none⟩ (.slice none 0 0)) x := by
  obtain ⟨h1, h2, h3, h4, h5, A, c, h6, h7, h8, h9, h10⟩ := h
  refine ⟨h1, by rw [size_setCell]; exact h2, h3, h4, fun o => (World.frozen?_setCell _ _ _ _).trans (h5 o), none, 0, ?_, by rw [hp, hk]; exact Nat.le_refl _, by omega, .inl hp, .inl hk⟩
  rw [hp, hk]
  exact h6.last
/-- the nodes of a new list. -/
def kidsOf (b : Nat) : Nat → List Tr → List PT
  | _, [] => []
  | o, t :: ts => .mk b o t.d t.l [] :: kidsOf b (o + 22) ts
theorem kidsOf_len (b : Nat) : ∀ (o : Nat) (l : List Tr), (kidsOf b o l).length = l.length
  | _, [] => rfl
  | o, t :: ts => by simp [kidsOf, kidsOf_len b (o + 22) ts]
theorem kidsOf_tr (b : Nat) : ∀ (o : Nat) (l : List Tr), (kidsOf b o l).map PT.tr = l
  | _, [] => rfl
  | o, t :: ts => by simp only [kidsOf, List.map_cons, kidsOf_tr b (o + 22) ts, PT.tr_mk, List.map_nil, List.append_nil, ← Tr.eta]
theorem kidsOf_ad (b : Nat) : ∀ (o : Nat) (l : List Tr) (i : Nat) (h : i < ((kidsOf b o l).map PT.ad).length), ((kidsOf b o l).map PT.ad)[i] = (b, o + i * 22)
  | _, [], i, h => by simp [kidsOf] at h
  | o, t :: ts, 0, _ => by simp [kidsOf, PT.ad]
  | o, t :: ts, i + 1, h => by
    simp only [kidsOf, List.map_cons, List.getElem_cons_succ]
    rw [kidsOf_ad b (o + 22) ts i (by simpa [kidsOf] using h)]
    congr 1; omega
/-- the nodes of a new list, flat. -/
def itsOf (b : Nat) : Nat → List Tr → List It
  | _, [] => []
  | o, t :: ts => ⟨b, o, t.d, t.l, []⟩ :: itsOf b (o + 22) ts
theorem kidsOf_its (b : Nat) : ∀ (o : Nat) (l : List Tr), (kidsOf b o l).flatMap PT.its = itsOf b o l
  | _, [] => rfl
  | o, t :: ts => by simp only [kidsOf, List.flatMap_cons, kidsOf_its b (o + 22) ts, PT.its_mk, List.map_nil, List.flatMap_nil, itsOf, List.cons_append, List.nil_append]
theorem itsOf_len (b : Nat) : ∀ (o : Nat) (l : List Tr), (itsOf b o l).length = l.length
  | _, [] => rfl
  | o, t :: ts => by simp [itsOf, itsOf_len b (o + 22) ts]
theorem itsOf_get (b : Nat) : ∀ (o : Nat) (l : List Tr) (i : Nat) (h : i < l.length) (h' : i < (itsOf b o l).length), (itsOf b o l)[i] = ⟨b, o + i * 22, l[i].d, l[i].l, []⟩
  | _, [], i, h, _ => by simp at h
  | o, t :: ts, 0, _, _ => by simp [itsOf]
  | o, t :: ts, i + 1, h, h' => by
    simp only [itsOf, List.getElem_cons_succ]
    rw [itsOf_get b (o + 22) ts i (by simpa using h) (by simpa [itsOf] using h')]
    congr 1; omega
theorem itsOf_mem (b o : Nat) (l : List Tr) : ∀ x ∈ itsOf b o l, ∃ i, ∃ h : i < l.length, x = ⟨b, o + i * 22, l[i].d, l[i].l, []⟩ := by
  intro x hx
  obtain ⟨i, hi, rfl⟩ := List.mem_iff_getElem.1 hx
  have hl : i < l.length := by rw [itsOf_len] at hi; exact hi
  exact ⟨i, hl, itsOf_get b o l i hl hi⟩
theorem kidsOf_adrs (b o : Nat) (l : List Tr) : (kidsOf b o l).flatMap PT.adrs = (itsOf b o l).map It.ad := by
  rw [← kidsOf_its, List.map_flatMap]; rfl
theorem itsOf_nodup (b : Nat) : ∀ (o : Nat) (l : List Tr), ((itsOf b o l).map It.ad).Nodup
  | _, [] => by simp [itsOf]
  | o, t :: ts => by
    simp only [itsOf, List.map_cons]
    refine List.nodup_cons.2 ⟨fun h => ?_, itsOf_nodup b (o + 22) ts⟩
    obtain ⟨x, hx, he⟩ := List.mem_map.1 h
    obtain ⟨i, hi, rfl⟩ := itsOf_mem b (o + 22) ts x hx
    simp only [It.ad, Prod.mk.injEq, true_and] at he
    omega
/-- the cells of a new list. -/
theorem itsOf_ok {W0 w1 w : World} {lo b : Nat} (hlo : lo ≤ b) (hb : b < w.heap.size) (hf : ∀ o, w.frozen? ⟨b, o, none⟩ = false) (hk : Below lo W0 w1) : ∀ {l : List Tr} {xs : List Value} {o : Nat}, NRow w1 lo l xs → o % 22 = 0 → (∀ j u, xs[j]? = some u → w.cell? ⟨b, o + j, none⟩ = some u) → ∀ x ∈ itsOf b o l, ItOk W0 lo w x
  | [], xs, o, _, _, _, x, hx => by simp [itsOf] at hx
  | t :: ts, xs, o, h, ho, hc, x, hx => by
    simp only [NRow] at h
    obtain ⟨cs, ys, rfl, h1, h2⟩ := h
    have hl := h1.len
    rcases List.mem_cons.1 hx with rfl | hx
    · obtain ⟨A, c, rfl, hd, hs⟩ := h1
      refine ⟨hlo, hb, ho, hd, hf, A, c, fun j hj => ?_, by simpa using hs.1, hs.2.1, ?_, .inl rfl⟩
      · obtain ⟨u, hu⟩ : ∃ u, (t.d.head ++ [Value.slice A t.l.length c])[j]? = some u := ⟨_, List.getElem?_eq_getElem (by rw [hl]; exact hj)⟩
        have h1 : (nodeA t.d A (t.l.length + ([] : List (Nat × Nat)).length) c)[j]? = (t.d.head ++ [Value.slice A t.l.length c])[j]? := by simp [nodeA]
        refine Eq.trans ?_ h1.symm
        rw [hu]
        exact hc j u (by rw [List.getElem?_append_left (by rw [hl]; exact hj)]; exact hu)
      · rcases hs.2.2 with h | ⟨b', o', hA, hks⟩
        · exact .inl h
        · refine .inr ⟨b', o', hA, KidsAt.of (fun i hi => NodeAt.keep (fun p hp => (hk.cell hp).symm) _ _ _ (hks.get i hi))⟩
    · refine itsOf_ok hlo hb hf hk h2 (by omega) (fun j u hu => ?_) x hx
      have := hc (22 + j) u (by rw [List.getElem?_append_right (by rw [hl]; omega), hl]; simpa using hu)
      rwa [show o + 22 + j = o + (22 + j) by omega]
end Go.Proofs.Ytbkmnboicihchaa
