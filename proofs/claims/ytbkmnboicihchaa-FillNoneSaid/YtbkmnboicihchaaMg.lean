/- Trees in memory at good addresses; the nodes that tree.Map has still to come to. -/
import Derived.Test.YtbkmnboicihchaaPf
namespace Go.Proofs.Ytbkmnboicihchaa
set_option linter.unusedSimpArgs false
set_option linter.unusedVariables false
open Go.RowKit Go.Shelf

mutual
/-- at that address lies that tree, each of its nodes at a good address. -/
def NodeG (w : World) (G : Nat → Nat → Prop) (b o : Nat) : Tr → Prop
  | .mk d l => G b o ∧ d.ok ∧ ∃ A c, NodeCells w b o d A l.length c ∧ l.length ≤ c ∧ c ≤ 9223372036854775807 ∧ (l = [] ∨ ∃ b' o', A = some ⟨b', o', none⟩ ∧ KidsG w G b' o' l)
def KidsG (w : World) (G : Nat → Nat → Prop) (b o : Nat) : List Tr → Prop
  | [] => True
  | t :: ts => NodeG w G b o t ∧ KidsG w G b (o + 22) ts
end
def SlG (w : World) (G : Nat → Nat → Prop) (A : Option Addr) (c : Nat) (l : List Tr) : Prop := l.length ≤ c ∧ c ≤ 9223372036854775807 ∧ (l = [] ∨ ∃ b' o', A = some ⟨b', o', none⟩ ∧ KidsG w G b' o' l)
theorem KidsG.get {w : World} {G : Nat → Nat → Prop} {b : Nat} : ∀ {l : List Tr} {o : Nat}, KidsG w G b o l → ∀ i (h : i < l.length), NodeG w G b (o + i * 22) l[i]
  | [], _, _, i, h => by simp at h
  | t :: ts, o, hk, 0, _ => by simp only [KidsG] at hk; simpa using hk.1
  | t :: ts, o, hk, i + 1, h => by
    simp only [KidsG] at hk
    have := KidsG.get hk.2 i (by simpa using h)
    simp only [List.getElem_cons_succ]
    rw [show o + (i + 1) * 22 = o + 22 + i * 22 by omega]
    exact this
theorem KidsG.of {w : World} {G : Nat → Nat → Prop} {b : Nat} : ∀ {l : List Tr} {o : Nat}, (∀ i (h : i < l.length), NodeG w G b (o + i * 22) l[i]) → KidsG w G b o l
  | [], _, _ => by simp [KidsG]
  | t :: ts, o, h => by
    simp only [KidsG]
    refine ⟨by have h0 := h 0 (by simp); rw [Nat.zero_mul, Nat.add_zero] at h0; exact h0, KidsG.of (fun i hi => ?_)⟩
    have := h (i + 1) (by simpa using hi)
    simp only [List.getElem_cons_succ] at this
    rw [show o + 22 + i * 22 = o + (i + 1) * 22 by omega]
    exact this
theorem NodeG.keep {w w' : World} {G G' : Nat → Nat → Prop} (hG : ∀ b o, G b o → G' b o) (hk : ∀ b o, G b o → ∀ j, j < 22 → w'.cell? ⟨b, o + j, none⟩ = w.cell? ⟨b, o + j, none⟩) (t : Tr) : ∀ b o, NodeG w G b o t → NodeG w' G' b o t := by
  induction t using Tr.ind with
  | _ d l ih =>
    intro b o h
    simp only [NodeG] at h ⊢
    obtain ⟨hb, hd, A, c, hc, h1, h2, h3⟩ := h
    refine ⟨hG b o hb, hd, A, c, fun j hj => (hk b o hb j hj).trans (hc j hj), h1, h2, ?_⟩
    rcases h3 with rfl | ⟨b', o', hA, hkids⟩
    · exact .inl rfl
    · exact .inr ⟨b', o', hA, KidsG.of (fun i hi => ih _ (List.getElem_mem hi) _ _ (hkids.get i hi))⟩
theorem SlG.keep {w w' : World} {G G' : Nat → Nat → Prop} (hG : ∀ b o, G b o → G' b o) (hk : ∀ b o, G b o → ∀ j, j < 22 → w'.cell? ⟨b, o + j, none⟩ = w.cell? ⟨b, o + j, none⟩) {A : Option Addr} {c : Nat} {l : List Tr} (h : SlG w G A c l) : SlG w' G' A c l := by
  obtain ⟨h1, h2, h3⟩ := h
  refine ⟨h1, h2, ?_⟩
  rcases h3 with rfl | ⟨b', o', hA, hkids⟩
  · exact .inl rfl
  · exact .inr ⟨b', o', hA, KidsG.of (fun i hi => NodeG.keep hG hk _ _ _ (hkids.get i hi))⟩
theorem NodeG.at_ {w : World} {G : Nat → Nat → Prop} {B : Nat} (hG : ∀ b o, G b o → b < B) (t : Tr) : ∀ b o, NodeG w G b o t → NodeAt w B b o t := by
  induction t using Tr.ind with
  | _ d l ih =>
    intro b o h
    simp only [NodeG] at h
    simp only [NodeAt]
    obtain ⟨hb, hd, A, c, hc, h1, h2, h3⟩ := h
    refine ⟨hG b o hb, hd, A, c, hc, h1, h2, ?_⟩
    rcases h3 with rfl | ⟨b', o', hA, hkids⟩
    · exact .inl rfl
    · exact .inr ⟨b', o', hA, KidsAt.of (fun i hi => ih _ (List.getElem_mem hi) _ _ (hkids.get i hi))⟩
theorem SlG.at_ {w : World} {G : Nat → Nat → Prop} {B : Nat} (hG : ∀ b o, G b o → b < B) {A : Option Addr} {c : Nat} {l : List Tr} (h : SlG w G A c l) : SlAt w B A c l := by
  obtain ⟨h1, h2, h3⟩ := h
  refine ⟨h1, h2, ?_⟩
  rcases h3 with rfl | ⟨b', o', hA, hkids⟩
  · exact .inl rfl
  · exact .inr ⟨b', o', hA, KidsAt.of (fun i hi => NodeG.at_ hG _ _ _ (hkids.get i hi))⟩
theorem NodeG.open_ {w : World} {G : Nat → Nat → Prop} {b o : Nat} {t : Tr} (h : NodeG w G b o t) : G b o ∧ t.d.ok ∧ ∃ A c, NodeCells w b o t.d A t.l.length c ∧ SlG w G A c t.l := by
  obtain ⟨d, l⟩ := t
  simp only [NodeG] at h
  obtain ⟨hb, hd, A, c, hc, h1, h2, h3⟩ := h
  exact ⟨hb, hd, A, c, hc, h1, h2, h3⟩
theorem NodeG.mk {w : World} {G : Nat → Nat → Prop} {b o : Nat} {t : Tr} (hb : G b o) (hd : t.d.ok) {A : Option Addr} {c : Nat} (hc : NodeCells w b o t.d A t.l.length c) (hs : SlG w G A c t.l) : NodeG w G b o t := by
  obtain ⟨d, l⟩ := t
  simp only [NodeG]
  exact ⟨hb, hd, A, c, hc, hs.1, hs.2.1, hs.2.2⟩
theorem SlG.get {w : World} {G : Nat → Nat → Prop} {A : Option Addr} {c : Nat} {l : List Tr} (h : SlG w G A c l) (i : Nat) (hi : i < l.length) : ∃ b o, A = some ⟨b, o, none⟩ ∧ NodeG w G b (o + i * 22) l[i] := by
  rcases h.2.2 with rfl | ⟨b', o', hA, hkids⟩
  · simp at hi
  · exact ⟨b', o', hA, hkids.get i hi⟩

mutual
/-- each node is replaced, those below it first. -/
def mapT (F : Tr → Tr) : Tr → Tr
  | .mk d l => F (.mk d (mapTs F l))
def mapTs (F : Tr → Tr) : List Tr → List Tr
  | [] => []
  | t :: ts => mapT F t :: mapTs F ts
end
theorem mapTs_map (F : Tr → Tr) : ∀ l : List Tr, mapTs F l = l.map (mapT F)
  | [] => by simp [mapTs]
  | t :: ts => by simp [mapTs, mapTs_map F ts]
theorem mapT_mk (F : Tr → Tr) (d : ND) (l : List Tr) : mapT F (.mk d l) = F (.mk d (l.map (mapT F))) := by simp [mapT, mapTs_map]
theorem AT.tr_mk (b o : Nat) (d : ND) (l : List AT) : (AT.mk b o d l).tr = .mk d (l.map AT.tr) := by simp [AT.tr, AT.trs_map]
mutual
/-- all nodes, those below ahead. -/
def AT.post : AT → List AT
  | .mk b o d l => AT.posts l ++ [.mk b o d l]
def AT.posts : List AT → List AT
  | [] => []
  | t :: ts => t.post ++ AT.posts ts
end
theorem AT.posts_flat : ∀ l : List AT, AT.posts l = l.flatMap AT.post
  | [] => by simp [AT.posts]
  | t :: ts => by simp [AT.posts, AT.posts_flat ts]
theorem AT.post_mk (b o : Nat) (d : ND) (l : List AT) : (AT.mk b o d l).post = l.flatMap AT.post ++ [.mk b o d l] := by simp [AT.post, AT.posts_flat]
theorem AT.post_eq (x : AT) : x.post = x.l.flatMap AT.post ++ [x] := by obtain ⟨b, o, d, l⟩ := x; rw [AT.post_mk]; rfl
theorem AT.post_perm (x : AT) : x.post.Perm x.all := by
  induction x using AT.ind with
  | _ b o d l ih =>
    rw [AT.post_mk, AT.all_mk]
    have h1 : (l.flatMap AT.post).Perm (l.flatMap AT.all) := by
      induction l with
      | nil => exact List.Perm.refl _
      | cons a l ihl =>
        rw [List.flatMap_cons, List.flatMap_cons]
        exact (ih a (by simp)).append (ihl (fun t ht => ih t (by simp [ht])))
    exact (List.perm_append_comm).trans ((List.Perm.cons _ h1))
theorem AT.post_len (x : AT) : x.post.length = x.tr.size := by
  induction x using AT.ind with
  | _ b o d l ih =>
    rw [AT.post_mk, AT.tr_mk]
    simp only [List.length_append, List.length_cons, List.length_nil, Tr.size]
    congr 1
    induction l with
    | nil => simp [Tr.sizes]
    | cons a l ihl => simp only [List.flatMap_cons, List.length_append, List.map_cons, Tr.sizes]; rw [ih a (by simp), ihl (fun t ht => ih t (by simp [ht]))]
/-- what tree.Map has still to come to, in order; the stack, its top first. -/
def rem : List (AT × Nat) → List AT
  | [] => []
  | (x, k) :: st => (x.l.drop k).flatMap AT.post ++ (x :: rem st)
theorem rem_push {x : AT} {k : Nat} {st : List (AT × Nat)} (hk : k < x.l.length) : rem ((x.l[k], 0) :: (x, k + 1) :: st) = rem ((x, k) :: st) := by
  simp only [rem, List.drop_zero]
  rw [List.drop_eq_getElem_cons hk, List.flatMap_cons, AT.post_eq x.l[k]]
  simp
theorem rem_pop {x : AT} {k : Nat} {st : List (AT × Nat)} (hk : x.l.length ≤ k) : rem ((x, k) :: st) = x :: rem st := by
  simp only [rem]; rw [List.drop_of_length_le hk]; simp
theorem rem_len : ∀ st : List (AT × Nat), st.length ≤ (rem st).length
  | [] => by simp [rem]
  | (x, k) :: st => by have := rem_len st; simp only [rem, List.length_append, List.length_cons]; omega
/-- the stack hangs together. -/
def Chain : List (AT × Nat) → Prop
  | [] => True
  | [_] => True
  | (y, _) :: (x, k) :: st => (∃ h : k - 1 < x.l.length, 1 ≤ k ∧ x.l[k - 1] = y) ∧ Chain ((x, k) :: st)
/-- the first m nodes below one are done. -/
def KidsDone (w : World) (G : Nat → Nat → Prop) (F : Tr → Tr) (x : AT) (m : Nat) : Prop := ∀ j (h : j < x.l.length), j < m → NodeG w G x.l[j].b x.l[j].o (mapT F x.l[j].tr)
/-- what has been done below the nodes of the stack. -/
def Done (w : World) (G : Nat → Nat → Prop) (F : Tr → Tr) : List (AT × Nat) → Prop
  | [] => True
  | (x, k) :: st => KidsDone w G F x k ∧ ∀ y ∈ st, KidsDone w G F y.1 (y.2 - 1)
/-- the addresses of what is done. -/
def Gd (a : AT) (st : List (AT × Nat)) (b o : Nat) : Prop := (b, o) ∈ a.all.map AT.ad ∧ (b, o) ∉ (rem st).map AT.ad
theorem KidsDone.keep {w w' : World} {G G' : Nat → Nat → Prop} {F : Tr → Tr} {x : AT} {m : Nat} (h : KidsDone w G F x m) (hG : ∀ b o, G b o → G' b o) (hk : ∀ b o, G b o → ∀ j, j < 22 → w'.cell? ⟨b, o + j, none⟩ = w.cell? ⟨b, o + j, none⟩) : KidsDone w' G' F x m :=
  fun j hj hm => NodeG.keep hG hk _ _ _ (h j hj hm)
theorem Done.keep {w w' : World} {G G' : Nat → Nat → Prop} {F : Tr → Tr} {st : List (AT × Nat)} (h : Done w G F st) (hG : ∀ b o, G b o → G' b o) (hk : ∀ b o, G b o → ∀ j, j < 22 → w'.cell? ⟨b, o + j, none⟩ = w.cell? ⟨b, o + j, none⟩) : Done w' G' F st := by
  cases st with
  | nil => trivial
  | cons x st => exact ⟨h.1.keep hG hk, fun y hy => (h.2 y hy).keep hG hk⟩
theorem Done.push {w : World} {G : Nat → Nat → Prop} {F : Tr → Tr} {x : AT} {k : Nat} {st : List (AT × Nat)} (h : Done w G F ((x, k) :: st)) (y : AT) : Done w G F ((y, 0) :: (x, k + 1) :: st) :=
  ⟨fun j _ hm => by omega, fun z hz => by
    rcases List.mem_cons.1 hz with rfl | hz
    · exact h.1
    · exact h.2 z hz⟩
/-- the top node is done: the one below it on the stack has one more. -/
theorem Done.pop {w : World} {G : Nat → Nat → Prop} {F : Tr → Tr} {x : AT} {k : Nat} {st : List (AT × Nat)} (h : Done w G F ((x, k) :: st)) (hc : Chain ((x, k) :: st)) (hx : NodeG w G x.b x.o (mapT F x.tr)) : Done w G F st := by
  cases st with
  | nil => trivial
  | cons y st =>
    obtain ⟨y, m⟩ := y
    obtain ⟨⟨hm, hm1, rfl⟩, -⟩ := hc
    have h0 := h.2 (y, m) (by simp)
    refine ⟨fun j hj hjm => ?_, fun z hz => h.2 z (by simp [hz])⟩
    by_cases e : j = m - 1
    · subst e; exact hx
    · exact h0 j hj (by simp only; omega)
theorem Chain.tail {x : AT × Nat} {st : List (AT × Nat)} (h : Chain (x :: st)) : Chain st := by
  cases st with
  | nil => trivial
  | cons y st => obtain ⟨x, k⟩ := x; obtain ⟨y, m⟩ := y; exact h.2
theorem Chain.push {x : AT} {k : Nat} {st : List (AT × Nat)} (h : Chain ((x, k) :: st)) (hk : k < x.l.length) : Chain ((x.l[k], 0) :: (x, k + 1) :: st) := by
  refine ⟨⟨by simpa using hk, by omega, by simp⟩, ?_⟩
  cases st with
  | nil => trivial
  | cons y st => obtain ⟨y, m⟩ := y; exact h
/-- the cells of the stack. -/
def mc (x : AT × Nat) : List Value := [.pointer (some ⟨x.1.b, x.1.o, none⟩), .int .i64 x.2]
theorem mc_len (st : List (AT × Nat)) : (st.flatMap mc).length = st.length * 2 := by
  induction st with
  | nil => rfl
  | cons x st ih => simp [List.flatMap_cons, ih, mc]; omega
theorem mc_top (st : List (AT × Nat)) (x : AT × Nat) : ((st ++ [x]).flatMap mc)[st.length * 2]? = some (.pointer (some ⟨x.1.b, x.1.o, none⟩)) ∧ ((st ++ [x]).flatMap mc)[st.length * 2 + 1]? = some (.int .i64 x.2) := by
  rw [List.flatMap_append, ← mc_len st]
  constructor <;> simp [mc]
theorem mc_next (st : List (AT × Nat)) (x : AT) (k : Nat) : ((st ++ [(x, k)]).flatMap mc).set (st.length * 2 + 1) (.int .i64 ((k + 1 : Nat) : Int)) = (st ++ [(x, k + 1)]).flatMap mc := by
  rw [List.flatMap_append, List.flatMap_append, ← mc_len st, List.set_append_right _ _ (by omega)]
  congr 1
  simp [mc]
/-- where tree.Map stands. -/
structure MS (T : TypeId) (lo : Nat) (a : AT) (F : Tr → Tr) (J : Nat → World → Prop) (wr : World) (st : List (AT × Nat)) (g cap : Nat) : Prop where
  own : wr.ownsRow (lo + 2) T 2 (.slice (some ⟨g, 0, none⟩) st.length cap) st.length (st.reverse.flatMap mc)
  chain : Chain st
  root : st ≠ [] → ∃ k, st.getLast? = some (a, k)
  nodup : ((rem st).map AT.ad).Nodup
  sub : ∀ y ∈ rem st, y ∈ a.all
  fresh : ∀ y ∈ rem st, FreshAt wr lo y
  done : Done wr (Gd a st) F st
  off : ∀ y ∈ a.all, y.b ≠ g ∧ y.b ≠ lo + 1 ∧ lo ≤ y.b ∧ y.b < wr.heap.size ∧ y.o % 22 = 0
  glo : lo + 2 ≤ g
  siz : lo + 3 ≤ wr.heap.size
  all : (rem st).length ≤ a.tr.size
  jj : J (a.tr.size - (rem st).length) wr
  res : ∃ Z, Z.size = 22 ∧ wr.heap[lo + 1]? = some (.cells Z 44)
  fin : st = [] → NodeG wr (Gd a []) a.b a.o (mapT F a.tr)
/-- what f does: it leaves new memory alone, and tells what F tells. -/
def FOk (P : Program) (fi : Nat) (caps : Array Value) (F : Tr → Tr) (lo : Nat) (J : Nat → World → Prop) : Prop :=
  ∀ (k : Nat) (wx : World) (d : ND) (l : List Tr) (A : Option Addr) (c : Nat) (G : Nat → Nat → Prop), J k wx → lo ≤ wx.heap.size → d.ok → SlG wx G A c l → (∀ b o, G b o → lo ≤ b ∧ b < wx.heap.size) → l.length ≤ 1048576 →
    Calls P fi (#[nodeV d A l.length c] ++ caps) wx fun e w' => ∃ A' c', e = .returned (nodeV (F (.mk d l)).d A' (F (.mk d l)).l.length c') ∧ (F (.mk d l)).d.ok ∧ SlG w' G A' c' (F (.mk d l)).l ∧ J (k + 1) w' ∧ wx.heap.size ≤ w'.heap.size ∧ (∀ b, lo ≤ b → b < wx.heap.size → w'.heap[b]? = wx.heap[b]?)
/-- J says nothing of new memory. -/
def JOk (lo : Nat) (J : Nat → World → Prop) : Prop := ∀ k w w', J k w → Below lo w w' → J k w'
theorem Gd.blocks {a : AT} {st : List (AT × Nat)} {b o : Nat} (h : Gd a st b o) : ∃ y ∈ a.all, y.b = b ∧ y.o = o := by
  obtain ⟨y, hy, e⟩ := List.mem_map.1 h.1
  simp only [AT.ad, Prod.mk.injEq] at e
  exact ⟨y, hy, e.1, e.2⟩
/-- a node below the top one is laid on the stack. -/
theorem MS.push {T : TypeId} {lo : Nat} {a : AT} {F : Tr → Tr} {J : Nat → World → Prop} {wr w1 : World} {x : AT} {k : Nat} {st : List (AT × Nat)} {g cap g2 cap2 : Nat} {o : Obj} (hJ : JOk lo J) (h : MS T lo a F J wr ((x, k) :: st) g cap) (hk : k < x.l.length)
    (hgr : ((wr.setCell ⟨g, st.length * 2 + 1, none⟩ (.int .i64 ((k + 1 : Nat) : Int))).alloc o).grownBy w1 (some g)) (hat : (some g : Option Nat) = some g2 ∨ g2 = wr.heap.size + 1)
    (hown : w1.ownsRow (lo + 2) T 2 (.slice (some ⟨g2, 0, none⟩) (st.length + 2) cap2) (st.length + 2) (((x, k + 1) :: st).reverse.flatMap mc ++ mc (x.l[k], 0))) : MS T lo a F J w1 ((x.l[k], 0) :: (x, k + 1) :: st) g2 cap2 := by
  have hblk : ∀ b, b < wr.heap.size → b ≠ g → w1.heap[b]? = wr.heap[b]? := fun b hb hn => by
    refine (hgr.block b (by simp; omega) (fun e => hn (Option.some.inj e))).trans ((heapOld _ o b (by rw [size_setCell]; exact hb)).trans (heap_setCell_other _ _ _ _ ?_))
    exact hn
  have hsz : wr.heap.size + 1 ≤ w1.heap.size := by have := hgr.size; simp at this; omega
  have hrem := rem_push (st := st) hk
  have hGd : Gd a ((x.l[k], 0) :: (x, k + 1) :: st) = Gd a ((x, k) :: st) := by unfold Gd; rw [hrem]
  have hcell : ∀ b o, Gd a ((x, k) :: st) b o → ∀ j, j < 22 → w1.cell? ⟨b, o + j, none⟩ = wr.cell? ⟨b, o + j, none⟩ := fun b o hg j _ => by
    obtain ⟨y, hy, rfl, rfl⟩ := hg.blocks
    exact World.cell?_of_block (a := ⟨y.b, y.o + j, none⟩) (hblk y.b (h.off y hy).2.2.2.1 (h.off y hy).1)
  have hsz3 := h.siz
  have hglo := h.glo
  refine ⟨?_, h.chain.push hk, ?_, by rw [hrem]; exact h.nodup, by rw [hrem]; exact h.sub, ?_, ?_, ?_, ?_, by omega, by rw [hrem]; exact h.all, ?_, ?_, fun e => by cases e⟩
  · have e : ((x.l[k], 0) :: (x, k + 1) :: st).reverse.flatMap mc = ((x, k + 1) :: st).reverse.flatMap mc ++ mc (x.l[k], 0) := by
      rw [List.reverse_cons, List.flatMap_append]; simp
    rw [e]; exact hown
  · intro _
    obtain ⟨m, hm⟩ := h.root (by simp)
    cases st with
    | nil =>
      simp only [List.getLast?_singleton, Option.some.injEq, Prod.mk.injEq] at hm
      exact ⟨k + 1, by simp [hm.1]⟩
    | cons z st => exact ⟨m, by rw [List.getLast?_cons_cons, List.getLast?_cons_cons]; rw [List.getLast?_cons_cons] at hm; exact hm⟩
  · rw [hrem]
    exact fun y hy => (h.fresh y hy).block (by omega) (hblk y.b (h.off y (h.sub y hy)).2.2.2.1 (h.off y (h.sub y hy)).1)
  · rw [hGd]; exact (h.done.push x.l[k]).keep (fun _ _ hg => hg) hcell
  · intro y hy
    obtain ⟨h1, h2, h3, h4, h5⟩ := h.off y hy
    refine ⟨?_, h2, h3, by omega, h5⟩
    rcases hat with e | e
    · have := Option.some.inj e; omega
    · omega
  · rcases hat with e | e
    · have := Option.some.inj e; omega
    · omega
  · rw [hrem]
    refine hJ _ _ _ h.jj ?_
    exact (((Below.refl lo wr).setCell (by simp only; omega) _).alloc (by rw [size_setCell]; omega) o).grown hgr (by simp; omega) (fun j e => by have := Option.some.inj e; omega)
  · obtain ⟨Z, hZ1, hZ2⟩ := h.res
    exact ⟨Z, hZ1, (hblk (lo + 1) (by omega) (by omega)).trans hZ2⟩
end Go.Proofs.Ytbkmnboicihchaa
