/- A step of tree.Map: a node is replaced. Rows that are read and stored in a region that draws its order, where just one operation may come next. No program in sight. -/
import Derived.Test.YtbiacjkkgddclaaPfMgKzG3
import Derived.Lib.LazyBuf
import Derived.Deep.Upon
import Derived.WalkSmall
import Derived.Deep.RegionHeld3
import Derived.Deep.MidRow
namespace Go.Proofs.Ytbiacjkkgddclaa
open Go.RowKit Go.Shelf

theorem sz_setCells (b : Nat) : ∀ (vs : List Value) (o : Nat) (w : World), (w.setCells b o vs).heap.size = w.heap.size
  | [], _, _ => rfl
  | v :: vs, o, w => by rw [World.setCells, sz_setCells b vs (o + 1), size_setCell]
theorem heap_setCells_far (b : Nat) {g : Nat} (h : g ≠ b) : ∀ (vs : List Value) (o : Nat) (w : World), (w.setCells b o vs).heap[g]? = w.heap[g]?
  | [], _, _ => rfl
  | v :: vs, o, w => by rw [World.setCells, heap_setCells_far b h vs (o + 1), heap_setCell_other _ _ _ _ h]
theorem below_setCells2 {B b : Nat} (hb : B ≤ b) : ∀ (vs : List Value) (o : Nat) (w : World), Below B w (w.setCells b o vs)
  | [], _, _ => Below.refl _ _
  | v :: vs, o, w => by
    rw [World.setCells]
    exact ((Below.refl B w).setCell (by simpa using hb) v).trans (below_setCells2 hb vs (o + 1) _)
/-- the cells of a node, stored over another one's. -/
theorem NodeCells.store {w : World} {b o : Nat} {d : ND} {A : Option Addr} {n c : Nat} (h : ∀ j, j < 22 → (w.cell? ⟨b, o + j, none⟩).isSome = true) : NodeCells (w.setCells b o (nodeA d A n c).toList) b o d A n c := by
  intro j hj
  have hl : (nodeA d A n c).toList.length = 22 := rfl
  rw [World.cell?_setCells_in b _ o w (fun i hi => h i (by rw [hl] at hi; exact hi)) j (by rw [hl]; exact hj)]
  simp
theorem AT.mem_all (x : AT) : x ∈ x.all := by obtain ⟨b, o, d, l⟩ := x; rw [AT.all_mk]; simp
/-- the mapped nodes below the top one. -/
theorem MS.kids {T : TypeId} {lo : Nat} {a : AT} {F : Tr → Tr} {J : Nat → World → Prop} {wr : World} {x : AT} {k : Nat} {st : List (AT × Nat)} {g cap : Nat} (h : MS T lo a F J wr ((x, k) :: st) g cap) (hk : x.l.length ≤ k) :
    ∃ A c, NodeCells wr x.b x.o x.d A x.l.length c ∧ x.d.ok ∧ SlG wr (Gd a ((x, k) :: st)) A c (x.l.map fun y => mapT F y.tr) := by
  obtain ⟨h1, h2, h3, h4, h5, A, c, h6, h7, h8, h9⟩ := h.fresh x (by rw [rem_pop hk]; simp)
  refine ⟨A, c, h6, h4, by rw [List.length_map]; exact h7, h8, ?_⟩
  rcases h9 with h9 | ⟨b', hA, h9⟩
  · exact .inl (by rw [h9]; rfl)
  · refine .inr ⟨b', 0, hA, KidsG.of (fun i hi => ?_)⟩
    have hi' : i < x.l.length := by rw [List.length_map] at hi; exact hi
    have := h.done.1 i hi' (by omega)
    have e : x.l[i].b = b' ∧ x.l[i].o = i * 22 := by have := h9 i hi'; simpa [AT.ad] using this
    rw [List.getElem_map, Nat.zero_add, ← e.1, ← e.2]; exact this
theorem MS.finish {T : TypeId} {lo : Nat} {a : AT} {F : Tr → Tr} {J : Nat → World → Prop} {wr w2 : World} {x : AT} {k : Nat} {st : List (AT × Nat)} {g cap : Nat} {A' : Option Addr} {c' : Nat} (hJ : JOk lo J) (h : MS T lo a F J wr ((x, k) :: st) g cap) (hk : x.l.length ≤ k)
    (hs : wr.heap.size ≤ w2.heap.size) (hb : ∀ b, lo ≤ b → b < wr.heap.size → w2.heap[b]? = wr.heap[b]?) (hj : J (a.tr.size - (rem ((x, k) :: st)).length + 1) w2) (hd : (mapT F x.tr).d.ok) (hsl : SlG w2 (Gd a ((x, k) :: st)) A' c' (mapT F x.tr).l) :
    MS T lo a F J (w2.setCells x.b x.o (nodeA (mapT F x.tr).d A' (mapT F x.tr).l.length c').toList) st g cap := by
  have hrem := rem_pop (st := st) hk
  have hxr : x ∈ rem ((x, k) :: st) := by rw [hrem]; simp
  have hxa := h.sub x hxr
  obtain ⟨f1, f2, f3, f4, f5, fA, fc, f6, f7⟩ := h.fresh x hxr
  obtain ⟨o1, o2, o3, o4, o5⟩ := h.off x hxa
  have hnd := h.nodup
  rw [hrem, List.map_cons, List.nodup_cons] at hnd
  have hs3 := h.siz
  have hg := h.glo
  have hGs : ∀ b o, Gd a ((x, k) :: st) b o → Gd a st b o := fun b o hg' => ⟨hg'.1, fun hm => hg'.2 (by rw [hrem, List.map_cons]; exact List.mem_cons_of_mem _ hm)⟩
  have hGx : Gd a st x.b x.o := ⟨List.mem_map.2 ⟨x, hxa, rfl⟩, hnd.1⟩
  have hwr2 : ∀ b o, Gd a ((x, k) :: st) b o → ∀ j, j < 22 → w2.cell? ⟨b, o + j, none⟩ = wr.cell? ⟨b, o + j, none⟩ := fun b o hg' j _ => by
    obtain ⟨y, hy, rfl, rfl⟩ := hg'.blocks
    exact World.cell?_of_block (a := ⟨y.b, y.o + j, none⟩) (hb y.b (h.off y hy).2.2.1 (h.off y hy).2.2.2.1)
  have hl : ∀ (d : ND) (A : Option Addr) (n c : Nat), (nodeA d A n c).toList.length = 22 := fun _ _ _ _ => rfl
  have h23 : ∀ b o, Gd a ((x, k) :: st) b o → ∀ j, j < 22 → (w2.setCells x.b x.o (nodeA (mapT F x.tr).d A' (mapT F x.tr).l.length c').toList).cell? ⟨b, o + j, none⟩ = w2.cell? ⟨b, o + j, none⟩ := fun b o hg' j hj => by
    obtain ⟨y, hy, rfl, rfl⟩ := hg'.blocks
    refine World.cell?_setCells_out _ _ _ _ _ (fun e _ => ?_)
    rw [hl]
    have h1 : y.o ≠ x.o := fun e2 => hg'.2 (by
      rw [hrem, List.map_cons]
      exact List.mem_cons.2 (.inl (by simp only [AT.ad, Prod.mk.injEq]; exact ⟨e, e2⟩)))
    have h2 := (h.off y hy).2.2.2.2
    simp only
    omega
  have hsome : ∀ j, j < 22 → (w2.cell? ⟨x.b, x.o + j, none⟩).isSome = true := fun j hj => by
    rw [World.cell?_of_block (a := ⟨x.b, x.o + j, none⟩) (hb x.b o3 o4), f6 j hj]
    have : j < (nodeA x.d fA x.l.length fc).size := by rw [nodeA_size]; exact hj
    simp [this]
  have hnode : NodeG (w2.setCells x.b x.o (nodeA (mapT F x.tr).d A' (mapT F x.tr).l.length c').toList) (Gd a st) x.b x.o (mapT F x.tr) :=
    NodeG.mk hGx hd (NodeCells.store hsome) (hsl.keep hGs h23)
  have hdone : Done (w2.setCells x.b x.o (nodeA (mapT F x.tr).d A' (mapT F x.tr).l.length c').toList) (Gd a st) F ((x, k) :: st) := h.done.keep hGs (fun b o hg' j hj => (h23 b o hg' j hj).trans (hwr2 b o hg' j hj))
  have hfar : ∀ b, lo ≤ b → b < wr.heap.size → b ≠ x.b → (w2.setCells x.b x.o (nodeA (mapT F x.tr).d A' (mapT F x.tr).l.length c').toList).heap[b]? = wr.heap[b]? := fun b h1 h2 h3 => (heap_setCells_far x.b h3 _ _ _).trans (hb b h1 h2)
  have hrl : (rem ((x, k) :: st)).length = (rem st).length + 1 := by rw [hrem, List.length_cons]
  have hall := h.all
  refine ⟨?_, h.chain.tail, ?_, hnd.2, fun y hy => h.sub y (by rw [hrem]; exact List.mem_cons_of_mem _ hy), ?_, hdone.pop h.chain hnode, ?_, hg, by rw [sz_setCells]; omega, by omega, ?_, ?_, ?_⟩
  · have hown := h.own
    rw [List.reverse_cons, List.flatMap_append] at hown
    have hp := ownsRow_pop (w := wr) (n := st.length) (by rw [mc_len, List.length_reverse]) hown
    refine ⟨hp.1, ?_⟩
    rcases hp.2 with e | ⟨g', cap', cur, hv, h2, h3, h4⟩
    · exact .inl e
    · refine .inr ⟨g', cap', cur, hv, h2, ?_, h4⟩
      simp only [Value.slice.injEq, Option.some.injEq, Addr.mk.injEq, and_true] at hv
      obtain ⟨rfl, -⟩ := hv
      rw [hfar g (by omega) (Array.getElem?_eq_some_iff.1 h3).1 (fun e => o1 e.symm)]; exact h3
  · intro hne
    obtain ⟨m, hm⟩ := h.root (by simp)
    cases st with
    | nil => exact absurd rfl hne
    | cons z st => exact ⟨m, by rw [List.getLast?_cons_cons] at hm; exact hm⟩
  · intro y hy
    have hy2 : y ∈ rem ((x, k) :: st) := by rw [hrem]; exact List.mem_cons_of_mem _ hy
    obtain ⟨q1, q2, q3, q4, q5, qA, qc, q6, q7⟩ := h.fresh y hy2
    have hne : y.ad ≠ x.ad := fun e => hnd.1 (by rw [← e]; exact List.mem_map.2 ⟨y, hy, rfl⟩)
    have hyb := h.off y (h.sub y hy2)
    refine ⟨q1, by rw [sz_setCells]; omega, q3, q4, fun o => ?_, qA, qc, fun j hj => ?_, q7⟩
    · rw [World.frozen?_setCells]
      have := q5 o
      unfold World.frozen? at this ⊢
      rw [hb y.b hyb.2.2.1 hyb.2.2.2.1]; exact this
    · rw [World.cell?_setCells_out _ _ _ _ _ (fun e _ => ?_), World.cell?_of_block (a := ⟨y.b, y.o + j, none⟩) (hb y.b hyb.2.2.1 hyb.2.2.2.1)]
      · exact q6 j hj
      · rw [hl]
        have h1 : y.o ≠ x.o := fun e2 => hne (by simp only [AT.ad, Prod.mk.injEq]; exact ⟨e, e2⟩)
        simp only
        omega
  · intro y hy
    obtain ⟨h1, h2, h3, h4, h5⟩ := h.off y hy
    exact ⟨h1, h2, h3, by rw [sz_setCells]; omega, h5⟩
  · have e : a.tr.size - (rem st).length = a.tr.size - (rem ((x, k) :: st)).length + 1 := by omega
    rw [e]
    exact hJ _ _ _ hj (below_setCells2 o3 _ _ _)
  · obtain ⟨Z, hZ1, hZ2⟩ := h.res
    exact ⟨Z, hZ1, (hfar (lo + 1) (by omega) (by omega) (fun e => o2 e.symm)).trans hZ2⟩
  · intro e
    subst e
    obtain ⟨m, hm⟩ := h.root (by simp)
    simp only [List.getLast?_singleton, Option.some.injEq, Prod.mk.injEq] at hm
    obtain ⟨rfl, -⟩ := hm
    exact hnode
theorem AT.tr_eq' (x : AT) : x.tr = .mk x.d (x.l.map AT.tr) := by obtain ⟨b, o, d, l⟩ := x; rw [AT.tr_mk]; rfl
/-- what a call of f at the top node gives. -/
def FinPost (T : TypeId) (lo : Nat) (a : AT) (F : Tr → Tr) (J : Nat → World → Prop) (x : AT) (st : List (AT × Nat)) (g cap : Nat) (v : Value) (e : Ending) (w' : World) : Prop :=
  ∃ cells : Array Value, e = .returned (.agg cells) ∧ cells.size = 22 ∧ cells.all (·.oneCell') = true ∧ w'.there x.b x.o 22 ∧ w'.cell? ⟨g, st.length * 2, none⟩ = some v ∧ (w'.setCells x.b x.o cells.toList).cell? ⟨g, st.length * 2, none⟩ = some v ∧ MS T lo a F J (w'.setCells x.b x.o cells.toList) st g cap
theorem MS.prep {P : Program} {fi : Nat} {caps : Array Value} {T : TypeId} {lo : Nat} {a : AT} {F : Tr → Tr} {J : Nat → World → Prop} {wr : World} {x : AT} {k : Nat} {st : List (AT × Nat)} {g cap : Nat} (hJ : JOk lo J) (hf : FOk P fi caps F lo J) (h : MS T lo a F J wr ((x, k) :: st) g cap) (hk : x.l.length ≤ k) (hn : x.l.length ≤ 1048576) (v : Value) (hv : wr.cell? ⟨g, st.length * 2, none⟩ = some v) :
    ∃ cs : List Value, cs.length = 22 ∧ wr.rangeAt x.b x.o cs ∧ Calls P fi (#[.agg cs.toArray] ++ caps) wr (FinPost T lo a F J x st g cap v) := by
  obtain ⟨kA, kc, hx1, hx2, hx3⟩ := MS.kids h hk
  obtain ⟨cs, e1, e2, e3⟩ := hx1.range (fun _ _ => rfl)
  have hxr : x ∈ rem ((x, k) :: st) := by rw [rem_pop hk]; simp
  have hxo := h.off x (h.sub x hxr)
  have hgl := (h.own.lt g rfl).2
  have hg := h.glo
  refine ⟨cs, e2, e3, ?_⟩
  have hcal := hf (a.tr.size - (rem ((x, k) :: st)).length) wr x.d (x.l.map fun y : AT => mapT F y.tr) kA kc (Gd a ((x, k) :: st)) h.jj (by have := h.siz; omega) hx2 hx3 (fun b o hg' => by obtain ⟨y, hy, rfl, rfl⟩ := hg'.blocks; exact ⟨(h.off y hy).2.2.1, (h.off y hy).2.2.2.1⟩) (by rw [List.length_map]; exact hn)
  have hFe : F (.mk x.d (x.l.map fun y => mapT F y.tr)) = mapT F x.tr := by rw [AT.tr_eq' x, mapT_mk, List.map_map]; rfl
  rw [List.length_map, nodeV, ← e1, hFe] at hcal
  refine hcal.mono ?_
  rintro e w' ⟨A', c', rfl, hd', hs', hj', hz', hb'⟩
  have hfin := MS.finish hJ h hk hz' hb' hj' hd' hs'
  have hblk := hb' x.b hxo.2.2.1 hxo.2.2.2.1
  obtain ⟨q1, q2, q3, q4, q5, qA, qc, q6, -⟩ := h.fresh x hxr
  refine ⟨_, rfl, rfl, all_oneCell_toArray (fun u hu => head_one _ _ _ _ u hu), fun j hj => ⟨?_, ?_⟩, ?_, ?_, hfin⟩
  · rw [World.cell?_of_block (a := ⟨x.b, x.o + j, none⟩) hblk, q6 j hj]
    have : j < (nodeA x.d qA x.l.length qc).size := by rw [nodeA_size]; exact hj
    simp [this]
  · have := q5 (x.o + j)
    unfold World.frozen? at this ⊢
    rw [hblk]; exact this
  · rw [World.cell?_of_block (a := ⟨g, st.length * 2, none⟩) (hb' g (by omega) hgl)]; exact hv
  · rw [World.cell?_setCells_out _ _ _ _ _ (fun e _ => absurd e.symm hxo.1), World.cell?_of_block (a := ⟨g, st.length * 2, none⟩) (hb' g (by omega) hgl)]; exact hv
theorem AT.sub_size (a : AT) : ∀ y ∈ a.all, y.tr.size ≤ a.tr.size := by
  induction a using AT.ind with
  | _ b o d l ih =>
    intro y hy
    rw [AT.all_mk] at hy
    rcases List.mem_cons.1 hy with rfl | hy
    · exact Nat.le_refl _
    · obtain ⟨z, hz, hyz⟩ := List.mem_flatMap.1 hy
      have h1 := ih z hz y hyz
      rw [AT.tr_mk, Tr.size]
      have : ∀ m : List AT, z ∈ m → z.tr.size ≤ Tr.sizes (m.map AT.tr) := by
        intro m
        induction m with
        | nil => intro h; cases h
        | cons q m ihm =>
          intro h
          simp only [List.map_cons, Tr.sizes]
          rcases List.mem_cons.1 h with rfl | h
          · omega
          · have := ihm h; omega
      have := this l hz
      omega
theorem AT.len_size (a : AT) : a.l.length ≤ a.tr.size := by
  rw [AT.tr_eq' a, Tr.size]
  have : ∀ m : List AT, m.length ≤ Tr.sizes (m.map AT.tr) := by
    intro m
    induction m with
    | nil => simp
    | cons q m ihm => simp only [List.map_cons, Tr.sizes, List.length_cons]; have := q.tr.size_pos; omega
  have := this a.l
  omega
theorem setRow_frozen (w : World) (g : Nat) (old cs : Array Value) (t : TypeId) (hg : w.heap[g]? = some (.cells old t (0, 0))) (o : Nat) : (w.setRow g cs).frozen? ⟨g, o, none⟩ = false := by
  unfold World.frozen?
  rw [setRow_heap w g old cs t (0, 0) hg]
  simp
/-- how tree.Map begins. -/
theorem MS.start {w2 : World} {lo : Nat} {t : Tr} {A2 : Option Addr} {c2 : Nat} {ks : List AT} {F : Tr → Tr} {J : Nat → World → Prop} {T : TypeId} {N Z : Array Value} (hJ : JOk lo J) (hk1 : ks.map AT.tr = t.l) (hk2 : FreshKids w2 (lo + 2) A2 c2 ks) (hd : t.d.ok)
    (h0 : w2.heap[lo]? = some (.cells N 40)) (h1 : w2.heap[lo + 1]? = some (.cells Z 40)) (hZ : Z.size = 22) (hsz : lo + 2 ≤ w2.heap.size) (hj : J 0 w2) :
    MS T lo (AT.mk lo 0 t.d ks) F J ((w2.setRow lo (nodeA t.d A2 t.l.length c2)).alloc (.cells #[.pointer (some ⟨lo, 0, none⟩), .int .i64 0] T)) [(AT.mk lo 0 t.d ks, 0)] w2.heap.size 1 := by
  have hrem : rem [(AT.mk lo 0 t.d ks, 0)] = (AT.mk lo 0 t.d ks).post := by
    simp only [rem, List.drop_zero, AT.l, AT.post_mk]
  have hkl : ks.length = t.l.length := by rw [← hk1, List.length_map]
  have hW : ((w2.setRow lo (nodeA t.d A2 t.l.length c2)).alloc (.cells #[.pointer (some ⟨lo, 0, none⟩), .int .i64 0] T)).heap.size = w2.heap.size + 1 := by simp
  have hb : ∀ b, b < w2.heap.size → b ≠ lo → ((w2.setRow lo (nodeA t.d A2 t.l.length c2)).alloc (.cells #[.pointer (some ⟨lo, 0, none⟩), .int .i64 0] T)).heap[b]? = w2.heap[b]? := fun b hb hn =>
    (heapOld _ _ b (by simpa using hb)).trans (setRow_other _ _ _ _ hn)
  have hlo : ((w2.setRow lo (nodeA t.d A2 t.l.length c2)).alloc (.cells #[.pointer (some ⟨lo, 0, none⟩), .int .i64 0] T)).heap[lo]? = some (.cells (nodeA t.d A2 t.l.length c2) 40) :=
    (heapOld _ _ lo (by simp; omega)).trans (setRow_heap _ _ _ _ _ _ h0)
  have hall : ∀ y ∈ (AT.mk lo 0 t.d ks).all, FreshAt ((w2.setRow lo (nodeA t.d A2 t.l.length c2)).alloc (.cells #[.pointer (some ⟨lo, 0, none⟩), .int .i64 0] T)) lo y ∧ y.b ≠ lo + 1 ∧ y.b < w2.heap.size := by
    intro y hy
    rw [AT.all_mk] at hy
    rcases List.mem_cons.1 hy with rfl | hy
    · refine ⟨⟨Nat.le_refl _, by rw [hW]; simp only [AT.b]; omega, rfl, hd, fun o => by simp only [AT.b]; unfold World.frozen?; rw [hlo]; simp, A2, c2, ?_, hk2.cap, hk2.max, hk2.at_⟩, by simp only [AT.b]; omega, by simp only [AT.b]; omega⟩
      intro j hj
      simp only [AT.b, AT.o, AT.d, AT.l]
      rw [cell_of_row _ _ _ _ _ _ hlo, Nat.zero_add, hkl]
    · have hf := hk2.ok y hy
      refine ⟨?_, by have := hf.1; omega, hf.2.1⟩
      have h3 := hf.block (w' := (w2.setRow lo (nodeA t.d A2 t.l.length c2)).alloc (.cells #[.pointer (some ⟨lo, 0, none⟩), .int .i64 0] T)) (by rw [hW]; omega) (hb y.b hf.2.1 (by have := hf.1; omega))
      exact ⟨by have := h3.1; omega, h3.2⟩
  have hnd : ((AT.mk lo 0 t.d ks).all.map AT.ad).Nodup := by
    rw [AT.all_mk, List.map_cons, List.nodup_cons]
    refine ⟨fun h => ?_, hk2.nodup⟩
    obtain ⟨y, hy, he⟩ := List.mem_map.1 h
    have h3 := (hk2.ok y hy).1
    have h4 : y.b = lo := congrArg Prod.fst he
    omega
  have hperm := AT.post_perm (AT.mk lo 0 t.d ks)
  refine ⟨⟨rfl, .inr ⟨w2.heap.size, 1, #[.pointer (some ⟨lo, 0, none⟩), .int .i64 0], rfl, hsz, ?_, Nat.le_refl _, by unfold maxLen; omega, rfl, rfl⟩⟩, trivial, fun _ => ⟨0, rfl⟩, ?_, ?_, ?_, ⟨fun j _ hm => by omega, fun y hy => by cases hy⟩, ?_, hsz, by rw [hW]; omega, ?_, ?_, ?_, fun e => by cases e⟩
  · have h3 := World.alloc_heap_new (w2.setRow lo (nodeA t.d A2 t.l.length c2)) (.cells #[.pointer (some ⟨lo, 0, none⟩), .int .i64 0] T)
    rwa [setRow_size] at h3
  · rw [hrem]; exact (hperm.map AT.ad).nodup_iff.2 hnd
  · rw [hrem]; exact fun y hy => hperm.mem_iff.1 hy
  · rw [hrem]; exact fun y hy => (hall y (hperm.mem_iff.1 hy)).1
  · intro y hy
    obtain ⟨h3, h4, h5⟩ := hall y hy
    exact ⟨by omega, h4, h3.1, h3.2.1, h3.2.2.1⟩
  · rw [hrem, AT.post_len]; exact Nat.le_refl _
  · rw [hrem, AT.post_len, Nat.sub_self]
    refine hJ _ _ _ hj ⟨rfl, rfl, rfl, by rw [hW]; omega, fun b hb' => hb b (by omega) (by omega)⟩
  · exact ⟨Z, hZ, (hb (lo + 1) (by omega) (by omega)).trans h1⟩
end Go.Proofs.Ytbiacjkkgddclaa
namespace Go.Proofs.Ytbiacjkkgddclaa
open Go

theorem wanted_none {o : Oper} {y : Nat → Option Bool} (h : o.guard = none) : Region.wanted o y = true := by simp [Region.wanted, h]
variable {P : Program} {md : Region.Mode} {ops : Array Oper} {Q : Exit → Act → World → Prop} {S : World → Prop}
theorem wpAnyH_loadRow {i : Nat} {o : Oper} {fuel : Nat} {listed : Array Bool} {a : Act} {w : World} (hr : Region.ready md ops listed = [i]) (ho : ops[i]? = some o) (hg : o.guard = none) (ty : TypeId) (x : Operand) (hop : o.op = .load ty x)
    (b p : Nat) (hx : a.eval x = .pointer (some ⟨b, p, none⟩)) (cs : List Value) (d : TypeDesc) (hc : w.rangeAt b p cs) (hu : P.underlying ty = some d) (hd : d.isRow = true) (hi : (P.info? ty).map (·.size) = some cs.length) (hS : S w)
    (h : S w → wpAnyH P md ops Q S fuel (listed.setIfInBounds i true) (a.put o.dst (.agg cs.toArray)) w) : wpAnyH P md ops Q S (fuel + 1) listed a w :=
  wpAnyH_ready hr (by simp) (AllReadyH.cons ho (fun K hK => by
    rw [if_pos (wanted_none hg)]
    exact wp_load_mid ty x hop b p hx cs d hc hu hd hi (hK.out _ _ hS h)) AllReadyH.nil)
theorem wpAnyH_storeRow {i : Nat} {o : Oper} {fuel : Nat} {listed : Array Bool} {a : Act} {w : World} (hr : Region.ready md ops listed = [i]) (ho : ops[i]? = some o) (hg : o.guard = none) (ty : TypeId) (x y : Operand) (hop : o.op = .store ty x y)
    (b p : Nat) (cells : Array Value) (hx : a.eval x = .pointer (some ⟨b, p, none⟩)) (hy : a.eval y = .agg cells) (ht : w.there b p cells.size) (hi : (P.info? ty).map (·.size) = some cells.size) (h1 : cells.all (·.oneCell') = true) (hS : S (w.setCells b p cells.toList))
    (h : S (w.setCells b p cells.toList) → wpAnyH P md ops Q S fuel (listed.setIfInBounds i true) (a.put o.dst undef) (w.setCells b p cells.toList)) : wpAnyH P md ops Q S (fuel + 1) listed a w :=
  wpAnyH_ready hr (by simp) (AllReadyH.cons ho (fun K hK => by
    rw [if_pos (wanted_none hg)]
    exact wp_store_mid ty x y hop b p cells hx hy ht hi h1 (hK.out _ _ hS h)) AllReadyH.nil)
end Go.Proofs.Ytbiacjkkgddclaa
