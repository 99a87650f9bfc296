/- A step of tree.Map: a node is replaced. Rows that are read and stored in a region that draws its order, where just one operation may come next. No program in sight. -/
import Derived.Test.YtbiacjkkgddclaaGreatPfMgKzG3
import Derived.Lib.LazyBuf
import Derived.Deep.Upon
import Derived.WalkSmall
import Derived.Deep.RegionHeld3
import Derived.Deep.MidRow
namespace Go.Proofs.YtbiacjkkgddclaaGreat
open Go.RowKit Go.Shelf

theorem sz_setCells (b : Nat) : ∀ (vs : List Value) (o : Nat) (w : World), (w.setCells b o vs).heap.size = w.heap.size
  | [], _, _ => rfl
  | v :: vs, o, w => by rw [World.setCells, sz_setCells b vs (o + 1), size_setCell]
theorem heap_setCells_far (b : Nat) {g : Nat} (h : g ≠ b) : ∀ (vs : List Value) (o : Nat) (w : World), (w.setCells b o vs).heap[g]? = w.heap[g]?
  | [], _, _ => rfl
  | v :: vs, o, w => by rw [World.setCells, heap_setCells_far b h vs (o + 1), heap_setCell_other _ _ _ _ h]
theorem below_setCells2 {B b : Nat} (hb : B ≤ b) : ∀ (vs : List Value) (o : Nat) (w : World), Below B w (w.setCells b o vs)
  | [], _, _ => Below.refl _ _
  | v :: vs, o, w => by
    rw [World.setCells]
    exact ((Below.refl B w).setCell (by simpa using hb) v).trans (below_setCells2 hb vs (o + 1) _)
/-- the cells of a node, stored over another one's. -/
theorem NodeCells.store {w : World} {b o : Nat} {d : ND} {A : Option Addr} {n c : Nat} (h : ∀ j, j < 22 → (w.cell? ⟨b, o + j, none⟩).isSome = true) : NodeCells (w.setCells b o (nodeA d A n c).toList) b o d A n c := by
  intro j hj
  have hl : (nodeA d A n c).toList.length = 22 := rfl
  rw [World.cell?_setCells_in b _ o w (fun i hi => h i (by rw [hl] at hi; exact hi)) j (by rw [hl]; exact hj)]
  simp
/-- the mapped nodes below the top one. -/
theorem MS.kids {T : TypeId} {lo : Nat} {a : AT} {F : Tr → Tr} {J : Nat → World → Prop} {wr : World} {x : AT} {k : Nat} {st : List (AT × Nat)} {g cap : Nat} (h : MS T lo a F J wr ((x, k) :: st) g cap) (hk : x.l.length ≤ k) :
    ∃ A c, NodeCells wr x.b x.o x.d A x.l.length c ∧ x.d.ok ∧ SlG wr (Gd a ((x, k) :: st)) A c (x.l.map fun y => mapT F y.tr) := by
  obtain ⟨h1, h2, h3, h4, h5, A, c, h6, h7, h8, h9⟩ := h.fresh x (by rw [rem_pop hk]; simp)
  refine ⟨A, c, h6, h4, by rw [List.length_map]; exact h7, h8, ?_⟩
  rcases h9 with h9 | ⟨b', hA, h9⟩
  · exact .inl (by rw [h9]; rfl)
  · refine .inr ⟨b', 0, hA, KidsG.of (fun i hi => ?_)⟩
    have hi' : i < x.l.length := by rw [List.length_map] at hi; exact hi
    have := h.done.1 i hi' (by omega)
    have e : x.l[i].b = b' ∧ x.l[i].o = i * 22 := by have := h9 i hi'; simpa [AT.ad] using this
    rw [List.getElem_map, Nat.zero_add, ← e.1, ← e.2]; exact this
/-- what a call of f at the top node gives. -/
def FinPost (T : TypeId) (lo : Nat) (a : AT) (F : Tr → Tr) (J : Nat → World → Prop) (x : AT) (st : List (AT × Nat)) (g cap : Nat) (v : Value) (e : Ending) (w' : World) : Prop :=
  ∃ cells : Array Value, e = .returned (.agg cells) ∧ cells.size = 22 ∧ cells.all (·.oneCell') = true ∧ w'.there x.b x.o 22 ∧ w'.cell? ⟨g, st.length * 2, none⟩ = some v ∧ (w'.setCells x.b x.o cells.toList).cell? ⟨g, st.length * 2, none⟩ = some v ∧ MS T lo a F J (w'.setCells x.b x.o cells.toList) st g cap
/-- how tree.Map begins. -/
theorem MS.start {w2 : World} {lo : Nat} {t : Tr} {A2 : Option Addr} {c2 : Nat} {ks : List AT} {F : Tr → Tr} {J : Nat → World → Prop} {T : TypeId} {N Z : Array Value} (hJ : JOk lo J) (hk1 : ks.map AT.tr = t.l) (hk2 : FreshKids w2 (lo + 2) A2 c2 ks) (hd : t.d.ok)
    (h0 : w2.heap[lo]? = some (.cells N 35)) (h1 : w2.heap[lo + 1]? = some (.cells Z 35)) (hZ : Z.size = 22) (hsz : lo + 2 ≤ w2.heap.size) (hj : J 0 w2) :
    MS T lo (AT.mk lo 0 t.d ks) F J ((w2.setRow lo (nodeA t.d A2 t.l.length c2)).alloc (.cells #[.pointer (some ⟨lo, 0, none⟩), .int .i64 0] T)) [(AT.mk lo 0 t.d ks, 0)] w2.heap.size 1 := by
  have hrem : rem [(AT.mk lo 0 t.d ks, 0)] = (AT.mk lo 0 t.d ks).post := by
    simp only [rem, List.drop_zero, AT.l, AT.post_mk]
  have hkl : ks.length = t.l.length := by rw [← hk1, List.length_map]
  have hW : ((w2.setRow lo (nodeA t.d A2 t.l.length c2)).alloc (.cells #[.pointer (some ⟨lo, 0, none⟩), .int .i64 0] T)).heap.size = w2.heap.size + 1 := by simp
  have hb : ∀ b, b < w2.heap.size → b ≠ lo → ((w2.setRow lo (nodeA t.d A2 t.l.length c2)).alloc (.cells #[.pointer (some ⟨lo, 0, none⟩), .int .i64 0] T)).heap[b]? = w2.heap[b]? := fun b hb hn =>
    (heapOld _ _ b (by simpa using hb)).trans (setRow_other _ _ _ _ hn)
  have hlo : ((w2.setRow lo (nodeA t.d A2 t.l.length c2)).alloc (.cells #[.pointer (some ⟨lo, 0, none⟩), .int .i64 0] T)).heap[lo]? = some (.cells (nodeA t.d A2 t.l.length c2) 35) :=
    (heapOld _ _ lo (by simp; omega)).trans (setRow_heap _ _ _ _ _ _ h0)
  have hall : ∀ y ∈ (AT.mk lo 0 t.d ks).all, FreshAt ((w2.setRow lo (nodeA t.d A2 t.l.length c2)).alloc (.cells #[.pointer (some ⟨lo, 0, none⟩), .int .i64 0] T)) lo y ∧ y.b ≠ lo + 1 ∧ y.b < w2.heap.size := by
    intro y hy
    rw [AT.all_mk] at hy
    rcases List.mem_cons.1 hy with rfl | hy
    · refine ⟨⟨Nat.le_refl _, by rw [hW]; simp only [AT.b]; omega, rfl, hd, fun o => by simp only [AT.b]; unfold World.frozen?; rw [hlo]; simp, A2, c2, ?_, hk2.cap, hk2.max, hk2.at_⟩, by simp only [AT.b]; omega, by simp only [AT.b]; omega⟩
      intro j hj
      simp only [AT.b, AT.o, AT.d, AT.l]
      rw [cell_of_row _ _ _ _ _ _ hlo, Nat.zero_add, hkl]
    · have hf := hk2.ok y hy
      refine ⟨?_, by have := hf.1; omega, hf.2.1⟩
      have h3 := hf.block (w' := (w2.setRow lo (nodeA t.d A2 t.l.length c2)).alloc (.cells #[.pointer (some ⟨lo, 0, none⟩), .int .i64 0] T)) (by rw [hW]; omega) (hb y.b hf.2.1 (by have := hf.1; omega))
      exact ⟨by have := h3.1; omega, h3.2⟩
  have hnd : ((AT.mk lo 0 t.d ks).all.map AT.ad).Nodup := by
    rw [AT.all_mk, List.map_cons, List.nodup_cons]
    refine ⟨fun h => ?_, hk2.nodup⟩
    obtain ⟨y, hy, he⟩ := List.mem_map.1 h
    have h3 := (hk2.ok y hy).1
    have h4 : y.b = lo := congrArg Prod.fst he
    omega
  have hperm := AT.post_perm (AT.mk lo 0 t.d ks)
  refine ⟨⟨rfl, .inr ⟨w2.heap.size, 1, #[.pointer (some ⟨lo, 0, none⟩), .int .i64 0], rfl, hsz, ?_, Nat.le_refl _, by unfold maxLen; omega, rfl, rfl⟩⟩, trivial, fun _ => ⟨0, rfl⟩, ?_, ?_, ?_, ⟨fun j _ hm => by omega, fun y hy => by cases hy⟩, ?_, hsz, by rw [hW]; omega, ?_, ?_, ?_, fun e => by cases e⟩
  · have h3 := World.alloc_heap_new (w2.setRow lo (nodeA t.d A2 t.l.length c2)) (.cells #[.pointer (some ⟨lo, 0, none⟩), .int .i64 0] T)
    rwa [setRow_size] at h3
  · rw [hrem]; exact (hperm.map AT.ad).nodup_iff.2 hnd
  · rw [hrem]; exact fun y hy => hperm.mem_iff.1 hy
  · rw [hrem]; exact fun y hy => (hall y (hperm.mem_iff.1 hy)).1
  · intro y hy
    obtain ⟨h3, h4, h5⟩ := hall y hy
    exact ⟨by omega, h4, h3.1, h3.2.1, h3.2.2.1⟩
  · rw [hrem, AT.post_len]; exact Nat.le_refl _
  · rw [hrem, AT.post_len, Nat.sub_self]
    refine hJ _ _ _ hj ⟨rfl, rfl, rfl, by rw [hW]; omega, fun b hb' => hb b (by omega) (by omega)⟩
  · exact ⟨Z, hZ, (hb (lo + 1) (by omega) (by omega)).trans h1⟩
end Go.Proofs.YtbiacjkkgddclaaGreat
namespace Go.Proofs.YtbiacjkkgddclaaGreat
open Go

theorem wanted_none {o : Oper} {y : Nat → Option Bool} (h : o.guard = none) : Region.wanted o y = true := by simp [Region.wanted, h]
variable {P : Program} {md : Region.Mode} {ops : Array Oper} {Q : Exit → Act → World → Prop} {S : World → Prop}
end Go.Proofs.YtbiacjkkgddclaaGreat
