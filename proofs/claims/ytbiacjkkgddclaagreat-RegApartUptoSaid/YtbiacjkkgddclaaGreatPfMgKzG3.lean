/- Trees in memory of their own. Trees in memory at good addresses; the nodes that tree.Map has still to come to. All but a zone of blocks stays. No program in sight. Writes in memory; a register: its map, its writes, in a zone. -/
import Derived.Test.YtbiacjkkgddclaaGreatNwXc0PyPmPn
import Derived.Test.YtbiacjkkgddclaaGreatNdSr
import Derived.Test.YtbiacjkkgddclaaGreatG1G2H2H9G5
namespace Go.Proofs.YtbiacjkkgddclaaGreat
open Go.RowKit Go.Shelf

theorem AT.ind {P : AT → Prop} (h : ∀ b o d l, (∀ t ∈ l, P t) → P (.mk b o d l)) (t : AT) : P t :=
  AT.rec (motive_1 := P) (motive_2 := fun l => ∀ t ∈ l, P t) (fun b o d l ih => h b o d l ih) (fun t ht => by cases ht)
    (fun t ts iht ihts x hx => by
      rcases List.mem_cons.1 hx with rfl | hx
      · exact iht
      · exact ihts x hx) t
mutual
/-- all nodes, those below behind. -/
def AT.all : AT → List AT
  | .mk b o d l => .mk b o d l :: AT.alls l
def AT.alls : List AT → List AT
  | [] => []
  | t :: ts => t.all ++ AT.alls ts
end
theorem AT.alls_flat : ∀ l : List AT, AT.alls l = l.flatMap AT.all
  | [] => by simp [AT.alls]
  | t :: ts => by simp [AT.alls, AT.alls_flat ts]
theorem AT.all_mk (b o : Nat) (d : ND) (l : List AT) : (AT.mk b o d l).all = .mk b o d l :: l.flatMap AT.all := by simp [AT.all, AT.alls_flat]
def AT.ad (x : AT) : Nat × Nat := (x.b, x.o)
/-- a node in new memory. -/
def FreshAt (w : World) (lo : Nat) (x : AT) : Prop :=
  lo ≤ x.b ∧ x.b < w.heap.size ∧ x.o % 22 = 0 ∧ x.d.ok ∧ (∀ o, w.frozen? ⟨x.b, o, none⟩ = false) ∧ ∃ A c, NodeCells w x.b x.o x.d A x.l.length c ∧ x.l.length ≤ c ∧ c ≤ 9223372036854775807 ∧ (x.l = [] ∨ ∃ b', A = some ⟨b', 0, none⟩ ∧ ∀ i (h : i < x.l.length), x.l[i].ad = (b', i * 22))
/-- the nodes below one, in new memory, each node apart from all others. -/
structure FreshKids (w : World) (lo : Nat) (A : Option Addr) (c : Nat) (ks : List AT) : Prop where
  cap : ks.length ≤ c
  max : c ≤ 9223372036854775807
  at_ : ks = [] ∨ ∃ b', A = some ⟨b', 0, none⟩ ∧ ∀ i (h : i < ks.length), ks[i].ad = (b', i * 22)
  nodup : ((ks.flatMap AT.all).map AT.ad).Nodup
  ok : ∀ x ∈ ks.flatMap AT.all, FreshAt w lo x
theorem FreshAt.block {w w' : World} {lo : Nat} {x : AT} (h : FreshAt w lo x) (hs : w.heap.size ≤ w'.heap.size) (hb : w'.heap[x.b]? = w.heap[x.b]?) : FreshAt w' lo x := by
  obtain ⟨h1, h2, h3, h4, h5, A, c, h6, h7⟩ := h
  exact ⟨h1, by omega, h3, h4, fun o => by have := h5 o; unfold World.frozen? at this ⊢; rw [hb]; exact this, A, c, h6.keep (fun p hp => World.cell?_of_block (a := p) (by rw [hp]; exact hb)), h7⟩
theorem FreshKids.block {w w' : World} {lo : Nat} {A : Option Addr} {c : Nat} {ks : List AT} (h : FreshKids w lo A c ks) (hs : w.heap.size ≤ w'.heap.size) (hb : ∀ b, lo ≤ b → b < w.heap.size → (∃ x ∈ ks.flatMap AT.all, x.b = b) → w'.heap[b]? = w.heap[b]?) : FreshKids w' lo A c ks :=
  ⟨h.cap, h.max, h.at_, h.nodup, fun x hx => (h.ok x hx).block hs (hb x.b (h.ok x hx).1 (h.ok x hx).2.1 ⟨x, hx, rfl⟩)⟩
theorem FreshKids.below {w w' : World} {lo : Nat} {A : Option Addr} {c : Nat} {ks : List AT} (h : FreshKids w lo A c ks) (hb : Below w.heap.size w w') : FreshKids w' lo A c ks :=
  h.block hb.size (fun b _ h2 _ => hb.block b h2)
theorem fresh_node {w : World} {lo B : Nat} (hB : w.heap.size ≤ B) (x : AT) : (∀ y ∈ x.all, FreshAt w lo y) → NodeAt w B x.b x.o x.tr := by
  induction x using AT.ind with
  | _ b o d l ih =>
    intro h
    obtain ⟨h1, h2, h3, h4, h5, A, c, h6, h7, h8, h9⟩ := h (.mk b o d l) (by rw [AT.all_mk]; simp)
    have htr : (AT.mk b o d l).tr = .mk d (l.map AT.tr) := by simp [AT.tr, AT.trs_map]
    rw [htr]
    have hlen : (Tr.mk d (l.map AT.tr)).l.length = l.length := by simp [Tr.l]
    refine NodeAt.mk (by have : b < w.heap.size := h2; exact Nat.lt_of_lt_of_le this hB) h4 (A := A) (c := c) (by rw [hlen]; exact h6) ⟨by rw [hlen]; exact h7, h8, ?_⟩
    rcases h9 with h9 | ⟨b', hA, h9⟩
    · exact .inl (by have : l = [] := h9; simp [Tr.l, this])
    · refine .inr ⟨b', 0, hA, KidsAt.of (fun i hi => ?_)⟩
      have hi' : i < l.length := by rw [hlen] at hi; exact hi
      have e : (Tr.mk d (l.map AT.tr)).l[i] = l[i].tr := by simp [Tr.l]
      have ha : l[i].ad = (b', i * 22) := h9 i hi'
      have e2 : l[i].b = b' ∧ l[i].o = i * 22 := by simpa [AT.ad] using ha
      have := ih l[i] (List.getElem_mem hi') (fun y hy => h y (by rw [AT.all_mk]; exact List.mem_cons_of_mem _ (List.mem_flatMap.2 ⟨_, List.getElem_mem hi', hy⟩)))
      rw [e, Nat.zero_add, ← e2.1, ← e2.2]; exact this
theorem FreshKids.sl {w : World} {lo B : Nat} {A : Option Addr} {c : Nat} {ks : List AT} (h : FreshKids w lo A c ks) (hB : w.heap.size ≤ B) : SlAt w B A c (ks.map AT.tr) := by
  refine ⟨by rw [List.length_map]; exact h.cap, h.max, ?_⟩
  rcases h.at_ with rfl | ⟨b', hA, h9⟩
  · exact .inl rfl
  · refine .inr ⟨b', 0, hA, KidsAt.of (fun i hi => ?_)⟩
    have hi' : i < ks.length := by rw [List.length_map] at hi; exact hi
    have e2 : ks[i].b = b' ∧ ks[i].o = i * 22 := by simpa [AT.ad] using h9 i hi'
    rw [List.getElem_map, Nat.zero_add, ← e2.1, ← e2.2]
    exact fresh_node hB _ (fun y hy => h.ok y (List.mem_flatMap.2 ⟨_, List.getElem_mem hi', hy⟩))
/-- a copy that is done. -/
theorem PT.at_ad (x : PT) : x.at_.ad = x.ad := by obtain ⟨b, o, d, p, l⟩ := x; rw [PT.at_mk]; rfl
theorem PT.all_at (x : PT) : x.at_.all.map AT.ad = x.adrs := by
  induction x using PT.ind with
  | _ b o d p l ih =>
    rw [PT.at_mk, AT.all_mk, PT.adrs_mk, List.map_cons, List.flatMap_map, List.map_flatMap]
    refine congr (congrArg List.cons rfl) ?_
    have : ∀ m : List PT, (∀ t ∈ m, t ∈ l) → (m.flatMap fun t => t.at_.all.map AT.ad) = m.flatMap PT.adrs := by
      intro m
      induction m with
      | nil => intro _; rfl
      | cons a m ihm => intro hm; rw [List.flatMap_cons, List.flatMap_cons, ih a (hm a (by simp)), ihm (fun t ht => hm t (by simp [ht]))]
    exact this l (fun _ h => h)
theorem PT.all_ok {W0 w : World} {lo : Nat} (x : PT) : (∀ i ∈ x.its, ItOk W0 lo w i ∧ i.p = []) → ∀ y ∈ x.at_.all, FreshAt w lo y := by
  induction x using PT.ind with
  | _ b o d p l ih =>
    intro h y hy
    rw [PT.at_mk, AT.all_mk] at hy
    rcases List.mem_cons.1 hy with rfl | hy
    · obtain ⟨⟨h1, h2, h3, h4, h5, A, c, h6, h7, h8, h9, h10⟩, hp⟩ := h ⟨b, o, d, p, l.map PT.ad⟩ (by rw [PT.its_mk]; simp)
      have hp' : p = [] := hp
      subst hp'
      simp only [List.length_nil, Nat.zero_add, List.length_map] at h6 h7
      refine ⟨h1, h2, h3, h4, h5, A, c, by rw [show (AT.mk b o d (l.map PT.at_)).l.length = l.length from by simp [AT.l]]; exact h6, by rw [show (AT.mk b o d (l.map PT.at_)).l.length = l.length from by simp [AT.l]]; exact h7, h8, ?_⟩
      rcases h10 with h10 | ⟨b', hA, h10⟩
      · exact .inl (by have e0 : l = [] := (by simpa using h10); rw [e0]; rfl)
      · refine .inr ⟨b', hA, fun i hi => ?_⟩
        have hi' : i < l.length := by simpa [AT.l] using hi
        have := h10 i (by simpa using hi')
        simp only [List.getElem_map] at this
        have e : (AT.mk b o d (l.map PT.at_)).l[i] = l[i].at_ := by simp [AT.l]
        rw [e, PT.at_ad]; exact this
    · rw [List.flatMap_map] at hy
      obtain ⟨t, ht, hy⟩ := List.mem_flatMap.1 hy
      exact ih t ht (fun i hi => h i (by rw [PT.its_mk]; exact List.mem_cons_of_mem _ (List.mem_flatMap.2 ⟨t, ht, hi⟩))) y hy
theorem PT.all_far (x : PT) (r : Nat) : (∀ i ∈ x.its, i.b ≠ r) → ∀ y ∈ x.at_.all, y.b ≠ r := by
  intro h y hy
  have h1 : y.ad ∈ x.adrs := by rw [← PT.all_at]; exact List.mem_map.2 ⟨y, hy, rfl⟩
  obtain ⟨i, hi, he⟩ := List.mem_map.1 h1
  have h2 : i.b = y.b := congrArg Prod.fst he
  rw [← h2]; exact h i hi
theorem Cop.done {W0 w : World} {lo : Nat} {t : Tr} {a : PT} (h : Cop W0 lo t w a) (r : Nat) (hp : ∀ x ∈ a.its, x.p = []) (hr : ∀ x ∈ a.its, x.b ≠ r) : ∃ A c ks, NodeCells w lo 0 t.d A t.l.length c ∧ t.d.ok ∧ ks.map AT.tr = t.l ∧ FreshKids w lo A c ks ∧ ∀ x ∈ ks.flatMap AT.all, x.b ≠ r := by
  have hfar := PT.all_far a r hr
  have htr := PT.at_tr a hp
  have hall := PT.all_ok a (fun i hi => ⟨h.ok i hi, hp i hi⟩)
  have hnd := h.nodup
  rw [← PT.all_at] at hnd
  have had := PT.at_ad a
  rw [h.ad] at had
  rw [h.tr] at htr
  generalize a.at_ = q at htr hall hnd had hfar
  obtain ⟨b, o, d, l⟩ := q
  simp only [AT.ad, AT.b, AT.o, Prod.mk.injEq] at had
  obtain ⟨rfl, rfl⟩ := had
  have htr' : (AT.mk b 0 d l).tr = .mk d (l.map AT.tr) := by simp [AT.tr, AT.trs_map]
  rw [htr'] at htr
  subst htr
  obtain ⟨h1, h2, h3, h4, h5, A, c, h6, h7, h8, h9⟩ := hall (.mk b 0 d l) (by rw [AT.all_mk]; simp)
  rw [AT.all_mk] at hall hnd hfar
  refine ⟨A, c, l, by simp only [Tr.d, Tr.l, List.length_map]; exact h6, h4, rfl, ⟨h7, h8, h9, ?_, fun x hx => hall x (List.mem_cons_of_mem _ hx)⟩, fun x hx => hfar x (List.mem_cons_of_mem _ hx)⟩
  rw [List.map_cons, List.nodup_cons] at hnd
  exact hnd.2
end Go.Proofs.YtbiacjkkgddclaaGreat
namespace Go.Proofs.YtbiacjkkgddclaaGreat
open Go.RowKit Go.Shelf

mutual
/-- at that address lies that tree, each of its nodes at a good address. -/
def NodeG (w : World) (G : Nat → Nat → Prop) (b o : Nat) : Tr → Prop
  | .mk d l => G b o ∧ d.ok ∧ ∃ A c, NodeCells w b o d A l.length c ∧ l.length ≤ c ∧ c ≤ 9223372036854775807 ∧ (l = [] ∨ ∃ b' o', A = some ⟨b', o', none⟩ ∧ KidsG w G b' o' l)
def KidsG (w : World) (G : Nat → Nat → Prop) (b o : Nat) : List Tr → Prop
  | [] => True
  | t :: ts => NodeG w G b o t ∧ KidsG w G b (o + 22) ts
end
def SlG (w : World) (G : Nat → Nat → Prop) (A : Option Addr) (c : Nat) (l : List Tr) : Prop := l.length ≤ c ∧ c ≤ 9223372036854775807 ∧ (l = [] ∨ ∃ b' o', A = some ⟨b', o', none⟩ ∧ KidsG w G b' o' l)
theorem KidsG.get {w : World} {G : Nat → Nat → Prop} {b : Nat} : ∀ {l : List Tr} {o : Nat}, KidsG w G b o l → ∀ i (h : i < l.length), NodeG w G b (o + i * 22) l[i]
  | [], _, _, i, h => by simp at h
  | t :: ts, o, hk, 0, _ => by simp only [KidsG] at hk; simpa using hk.1
  | t :: ts, o, hk, i + 1, h => by
    simp only [KidsG] at hk
    have := KidsG.get hk.2 i (by simpa using h)
    simp only [List.getElem_cons_succ]
    rw [show o + (i + 1) * 22 = o + 22 + i * 22 by omega]
    exact this
theorem KidsG.of {w : World} {G : Nat → Nat → Prop} {b : Nat} : ∀ {l : List Tr} {o : Nat}, (∀ i (h : i < l.length), NodeG w G b (o + i * 22) l[i]) → KidsG w G b o l
  | [], _, _ => by simp [KidsG]
  | t :: ts, o, h => by
    simp only [KidsG]
    refine ⟨by have h0 := h 0 (by simp); rw [Nat.zero_mul, Nat.add_zero] at h0; exact h0, KidsG.of (fun i hi => ?_)⟩
    have := h (i + 1) (by simpa using hi)
    simp only [List.getElem_cons_succ] at this
    rw [show o + 22 + i * 22 = o + (i + 1) * 22 by omega]
    exact this
theorem NodeG.keep {w w' : World} {G G' : Nat → Nat → Prop} (hG : ∀ b o, G b o → G' b o) (hk : ∀ b o, G b o → ∀ j, j < 22 → w'.cell? ⟨b, o + j, none⟩ = w.cell? ⟨b, o + j, none⟩) (t : Tr) : ∀ b o, NodeG w G b o t → NodeG w' G' b o t := by
  induction t using Tr.ind with
  | _ d l ih =>
    intro b o h
    simp only [NodeG] at h ⊢
    obtain ⟨hb, hd, A, c, hc, h1, h2, h3⟩ := h
    refine ⟨hG b o hb, hd, A, c, fun j hj => (hk b o hb j hj).trans (hc j hj), h1, h2, ?_⟩
    rcases h3 with rfl | ⟨b', o', hA, hkids⟩
    · exact .inl rfl
    · exact .inr ⟨b', o', hA, KidsG.of (fun i hi => ih _ (List.getElem_mem hi) _ _ (hkids.get i hi))⟩
theorem SlG.keep {w w' : World} {G G' : Nat → Nat → Prop} (hG : ∀ b o, G b o → G' b o) (hk : ∀ b o, G b o → ∀ j, j < 22 → w'.cell? ⟨b, o + j, none⟩ = w.cell? ⟨b, o + j, none⟩) {A : Option Addr} {c : Nat} {l : List Tr} (h : SlG w G A c l) : SlG w' G' A c l := by
  obtain ⟨h1, h2, h3⟩ := h
  refine ⟨h1, h2, ?_⟩
  rcases h3 with rfl | ⟨b', o', hA, hkids⟩
  · exact .inl rfl
  · exact .inr ⟨b', o', hA, KidsG.of (fun i hi => NodeG.keep hG hk _ _ _ (hkids.get i hi))⟩
theorem NodeG.at_ {w : World} {G : Nat → Nat → Prop} {B : Nat} (hG : ∀ b o, G b o → b < B) (t : Tr) : ∀ b o, NodeG w G b o t → NodeAt w B b o t := by
  induction t using Tr.ind with
  | _ d l ih =>
    intro b o h
    simp only [NodeG] at h
    simp only [NodeAt]
    obtain ⟨hb, hd, A, c, hc, h1, h2, h3⟩ := h
    refine ⟨hG b o hb, hd, A, c, hc, h1, h2, ?_⟩
    rcases h3 with rfl | ⟨b', o', hA, hkids⟩
    · exact .inl rfl
    · exact .inr ⟨b', o', hA, KidsAt.of (fun i hi => ih _ (List.getElem_mem hi) _ _ (hkids.get i hi))⟩
theorem SlG.at_ {w : World} {G : Nat → Nat → Prop} {B : Nat} (hG : ∀ b o, G b o → b < B) {A : Option Addr} {c : Nat} {l : List Tr} (h : SlG w G A c l) : SlAt w B A c l := by
  obtain ⟨h1, h2, h3⟩ := h
  refine ⟨h1, h2, ?_⟩
  rcases h3 with rfl | ⟨b', o', hA, hkids⟩
  · exact .inl rfl
  · exact .inr ⟨b', o', hA, KidsAt.of (fun i hi => NodeG.at_ hG _ _ _ (hkids.get i hi))⟩
theorem NodeG.open_ {w : World} {G : Nat → Nat → Prop} {b o : Nat} {t : Tr} (h : NodeG w G b o t) : G b o ∧ t.d.ok ∧ ∃ A c, NodeCells w b o t.d A t.l.length c ∧ SlG w G A c t.l := by
  obtain ⟨d, l⟩ := t
  simp only [NodeG] at h
  obtain ⟨hb, hd, A, c, hc, h1, h2, h3⟩ := h
  exact ⟨hb, hd, A, c, hc, h1, h2, h3⟩
theorem NodeG.mk {w : World} {G : Nat → Nat → Prop} {b o : Nat} {t : Tr} (hb : G b o) (hd : t.d.ok) {A : Option Addr} {c : Nat} (hc : NodeCells w b o t.d A t.l.length c) (hs : SlG w G A c t.l) : NodeG w G b o t := by
  obtain ⟨d, l⟩ := t
  simp only [NodeG]
  exact ⟨hb, hd, A, c, hc, hs.1, hs.2.1, hs.2.2⟩
theorem SlG.get {w : World} {G : Nat → Nat → Prop} {A : Option Addr} {c : Nat} {l : List Tr} (h : SlG w G A c l) (i : Nat) (hi : i < l.length) : ∃ b o, A = some ⟨b, o, none⟩ ∧ NodeG w G b (o + i * 22) l[i] := by
  rcases h.2.2 with rfl | ⟨b', o', hA, hkids⟩
  · simp at hi
  · exact ⟨b', o', hA, hkids.get i hi⟩

mutual
/-- each node is replaced, those below it first. -/
def mapT (F : Tr → Tr) : Tr → Tr
  | .mk d l => F (.mk d (mapTs F l))
def mapTs (F : Tr → Tr) : List Tr → List Tr
  | [] => []
  | t :: ts => mapT F t :: mapTs F ts
end
theorem AT.tr_mk (b o : Nat) (d : ND) (l : List AT) : (AT.mk b o d l).tr = .mk d (l.map AT.tr) := by simp [AT.tr, AT.trs_map]
mutual
/-- all nodes, those below ahead. -/
def AT.post : AT → List AT
  | .mk b o d l => AT.posts l ++ [.mk b o d l]
def AT.posts : List AT → List AT
  | [] => []
  | t :: ts => t.post ++ AT.posts ts
end
theorem AT.posts_flat : ∀ l : List AT, AT.posts l = l.flatMap AT.post
  | [] => by simp [AT.posts]
  | t :: ts => by simp [AT.posts, AT.posts_flat ts]
theorem AT.post_mk (b o : Nat) (d : ND) (l : List AT) : (AT.mk b o d l).post = l.flatMap AT.post ++ [.mk b o d l] := by simp [AT.post, AT.posts_flat]
theorem AT.post_eq (x : AT) : x.post = x.l.flatMap AT.post ++ [x] := by obtain ⟨b, o, d, l⟩ := x; rw [AT.post_mk]; rfl
theorem AT.post_perm (x : AT) : x.post.Perm x.all := by
  induction x using AT.ind with
  | _ b o d l ih =>
    rw [AT.post_mk, AT.all_mk]
    have h1 : (l.flatMap AT.post).Perm (l.flatMap AT.all) := by
      induction l with
      | nil => exact List.Perm.refl _
      | cons a l ihl =>
        rw [List.flatMap_cons, List.flatMap_cons]
        exact (ih a (by simp)).append (ihl (fun t ht => ih t (by simp [ht])))
    exact (List.perm_append_comm).trans ((List.Perm.cons _ h1))
theorem AT.post_len (x : AT) : x.post.length = x.tr.size := by
  induction x using AT.ind with
  | _ b o d l ih =>
    rw [AT.post_mk, AT.tr_mk]
    simp only [List.length_append, List.length_cons, List.length_nil, Tr.size]
    congr 1
    induction l with
    | nil => simp [Tr.sizes]
    | cons a l ihl => simp only [List.flatMap_cons, List.length_append, List.map_cons, Tr.sizes]; rw [ih a (by simp), ihl (fun t ht => ih t (by simp [ht]))]
/-- what tree.Map has still to come to, in order; the stack, its top first. -/
def rem : List (AT × Nat) → List AT
  | [] => []
  | (x, k) :: st => (x.l.drop k).flatMap AT.post ++ (x :: rem st)
theorem rem_push {x : AT} {k : Nat} {st : List (AT × Nat)} (hk : k < x.l.length) : rem ((x.l[k], 0) :: (x, k + 1) :: st) = rem ((x, k) :: st) := by
  simp only [rem, List.drop_zero]
  rw [List.drop_eq_getElem_cons hk, List.flatMap_cons, AT.post_eq x.l[k]]
  simp
theorem rem_pop {x : AT} {k : Nat} {st : List (AT × Nat)} (hk : x.l.length ≤ k) : rem ((x, k) :: st) = x :: rem st := by
  simp only [rem]; rw [List.drop_of_length_le hk]; simp
/-- the stack hangs together. -/
def Chain : List (AT × Nat) → Prop
  | [] => True
  | [_] => True
  | (y, _) :: (x, k) :: st => (∃ h : k - 1 < x.l.length, 1 ≤ k ∧ x.l[k - 1] = y) ∧ Chain ((x, k) :: st)
/-- the first m nodes below one are done. -/
def KidsDone (w : World) (G : Nat → Nat → Prop) (F : Tr → Tr) (x : AT) (m : Nat) : Prop := ∀ j (h : j < x.l.length), j < m → NodeG w G x.l[j].b x.l[j].o (mapT F x.l[j].tr)
/-- what has been done below the nodes of the stack. -/
def Done (w : World) (G : Nat → Nat → Prop) (F : Tr → Tr) : List (AT × Nat) → Prop
  | [] => True
  | (x, k) :: st => KidsDone w G F x k ∧ ∀ y ∈ st, KidsDone w G F y.1 (y.2 - 1)
/-- the addresses of what is done. -/
def Gd (a : AT) (st : List (AT × Nat)) (b o : Nat) : Prop := (b, o) ∈ a.all.map AT.ad ∧ (b, o) ∉ (rem st).map AT.ad
theorem KidsDone.keep {w w' : World} {G G' : Nat → Nat → Prop} {F : Tr → Tr} {x : AT} {m : Nat} (h : KidsDone w G F x m) (hG : ∀ b o, G b o → G' b o) (hk : ∀ b o, G b o → ∀ j, j < 22 → w'.cell? ⟨b, o + j, none⟩ = w.cell? ⟨b, o + j, none⟩) : KidsDone w' G' F x m :=
  fun j hj hm => NodeG.keep hG hk _ _ _ (h j hj hm)
theorem Done.keep {w w' : World} {G G' : Nat → Nat → Prop} {F : Tr → Tr} {st : List (AT × Nat)} (h : Done w G F st) (hG : ∀ b o, G b o → G' b o) (hk : ∀ b o, G b o → ∀ j, j < 22 → w'.cell? ⟨b, o + j, none⟩ = w.cell? ⟨b, o + j, none⟩) : Done w' G' F st := by
  cases st with
  | nil => trivial
  | cons x st => exact ⟨h.1.keep hG hk, fun y hy => (h.2 y hy).keep hG hk⟩
theorem Done.push {w : World} {G : Nat → Nat → Prop} {F : Tr → Tr} {x : AT} {k : Nat} {st : List (AT × Nat)} (h : Done w G F ((x, k) :: st)) (y : AT) : Done w G F ((y, 0) :: (x, k + 1) :: st) :=
  ⟨fun j _ hm => by omega, fun z hz => by
    rcases List.mem_cons.1 hz with rfl | hz
    · exact h.1
    · exact h.2 z hz⟩
/-- the top node is done: the one below it on the stack has one more. -/
theorem Done.pop {w : World} {G : Nat → Nat → Prop} {F : Tr → Tr} {x : AT} {k : Nat} {st : List (AT × Nat)} (h : Done w G F ((x, k) :: st)) (hc : Chain ((x, k) :: st)) (hx : NodeG w G x.b x.o (mapT F x.tr)) : Done w G F st := by
  cases st with
  | nil => trivial
  | cons y st =>
    obtain ⟨y, m⟩ := y
    obtain ⟨⟨hm, hm1, rfl⟩, -⟩ := hc
    have h0 := h.2 (y, m) (by simp)
    refine ⟨fun j hj hjm => ?_, fun z hz => h.2 z (by simp [hz])⟩
    by_cases e : j = m - 1
    · subst e; exact hx
    · exact h0 j hj (by simp only; omega)
theorem Chain.push {x : AT} {k : Nat} {st : List (AT × Nat)} (h : Chain ((x, k) :: st)) (hk : k < x.l.length) : Chain ((x.l[k], 0) :: (x, k + 1) :: st) := by
  refine ⟨⟨by simpa using hk, by omega, by simp⟩, ?_⟩
  cases st with
  | nil => trivial
  | cons y st => obtain ⟨y, m⟩ := y; exact h
/-- the cells of the stack. -/
def mc (x : AT × Nat) : List Value := [.pointer (some ⟨x.1.b, x.1.o, none⟩), .int .i64 x.2]
/-- where tree.Map stands. -/
structure MS (T : TypeId) (lo : Nat) (a : AT) (F : Tr → Tr) (J : Nat → World → Prop) (wr : World) (st : List (AT × Nat)) (g cap : Nat) : Prop where
  own : wr.ownsRow (lo + 2) T 2 (.slice (some ⟨g, 0, none⟩) st.length cap) st.length (st.reverse.flatMap mc)
  chain : Chain st
  root : st ≠ [] → ∃ k, st.getLast? = some (a, k)
  nodup : ((rem st).map AT.ad).Nodup
  sub : ∀ y ∈ rem st, y ∈ a.all
  fresh : ∀ y ∈ rem st, FreshAt wr lo y
  done : Done wr (Gd a st) F st
  off : ∀ y ∈ a.all, y.b ≠ g ∧ y.b ≠ lo + 1 ∧ lo ≤ y.b ∧ y.b < wr.heap.size ∧ y.o % 22 = 0
  glo : lo + 2 ≤ g
  siz : lo + 3 ≤ wr.heap.size
  all : (rem st).length ≤ a.tr.size
  jj : J (a.tr.size - (rem st).length) wr
  res : ∃ Z, Z.size = 22 ∧ wr.heap[lo + 1]? = some (.cells Z 35)
  fin : st = [] → NodeG wr (Gd a []) a.b a.o (mapT F a.tr)
/-- what f does: it leaves new memory alone, and tells what F tells. -/
def FOk (P : Program) (fi : Nat) (caps : Array Value) (F : Tr → Tr) (lo : Nat) (J : Nat → World → Prop) : Prop :=
  ∀ (k : Nat) (wx : World) (d : ND) (l : List Tr) (A : Option Addr) (c : Nat) (G : Nat → Nat → Prop), J k wx → lo ≤ wx.heap.size → d.ok → SlG wx G A c l → (∀ b o, G b o → lo ≤ b ∧ b < wx.heap.size) → l.length ≤ 1048576 →
    Calls P fi (#[nodeV d A l.length c] ++ caps) wx fun e w' => ∃ A' c', e = .returned (nodeV (F (.mk d l)).d A' (F (.mk d l)).l.length c') ∧ (F (.mk d l)).d.ok ∧ SlG w' G A' c' (F (.mk d l)).l ∧ J (k + 1) w' ∧ wx.heap.size ≤ w'.heap.size ∧ (∀ b, lo ≤ b → b < wx.heap.size → w'.heap[b]? = wx.heap[b]?)
/-- J says nothing of new memory. -/
def JOk (lo : Nat) (J : Nat → World → Prop) : Prop := ∀ k w w', J k w → Below lo w w' → J k w'
theorem Gd.blocks {a : AT} {st : List (AT × Nat)} {b o : Nat} (h : Gd a st b o) : ∃ y ∈ a.all, y.b = b ∧ y.o = o := by
  obtain ⟨y, hy, e⟩ := List.mem_map.1 h.1
  simp only [AT.ad, Prod.mk.injEq] at e
  exact ⟨y, hy, e.1, e.2⟩
/-- a node below the top one is laid on the stack. -/
theorem MS.push {T : TypeId} {lo : Nat} {a : AT} {F : Tr → Tr} {J : Nat → World → Prop} {wr w1 : World} {x : AT} {k : Nat} {st : List (AT × Nat)} {g cap g2 cap2 : Nat} {o : Obj} (hJ : JOk lo J) (h : MS T lo a F J wr ((x, k) :: st) g cap) (hk : k < x.l.length)
    (hgr : ((wr.setCell ⟨g, st.length * 2 + 1, none⟩ (.int .i64 ((k + 1 : Nat) : Int))).alloc o).grownBy w1 (some g)) (hat : (some g : Option Nat) = some g2 ∨ g2 = wr.heap.size + 1)
    (hown : w1.ownsRow (lo + 2) T 2 (.slice (some ⟨g2, 0, none⟩) (st.length + 2) cap2) (st.length + 2) (((x, k + 1) :: st).reverse.flatMap mc ++ mc (x.l[k], 0))) : MS T lo a F J w1 ((x.l[k], 0) :: (x, k + 1) :: st) g2 cap2 := by
  have hblk : ∀ b, b < wr.heap.size → b ≠ g → w1.heap[b]? = wr.heap[b]? := fun b hb hn => by
    refine (hgr.block b (by simp; omega) (fun e => hn (Option.some.inj e))).trans ((heapOld _ o b (by rw [size_setCell]; exact hb)).trans (heap_setCell_other _ _ _ _ ?_))
    exact hn
  have hsz : wr.heap.size + 1 ≤ w1.heap.size := by have := hgr.size; simp at this; omega
  have hrem := rem_push (st := st) hk
  have hGd : Gd a ((x.l[k], 0) :: (x, k + 1) :: st) = Gd a ((x, k) :: st) := by unfold Gd; rw [hrem]
  have hcell : ∀ b o, Gd a ((x, k) :: st) b o → ∀ j, j < 22 → w1.cell? ⟨b, o + j, none⟩ = wr.cell? ⟨b, o + j, none⟩ := fun b o hg j _ => by
    obtain ⟨y, hy, rfl, rfl⟩ := hg.blocks
    exact World.cell?_of_block (a := ⟨y.b, y.o + j, none⟩) (hblk y.b (h.off y hy).2.2.2.1 (h.off y hy).1)
  have hsz3 := h.siz
  have hglo := h.glo
  refine ⟨?_, h.chain.push hk, ?_, by rw [hrem]; exact h.nodup, by rw [hrem]; exact h.sub, ?_, ?_, ?_, ?_, by omega, by rw [hrem]; exact h.all, ?_, ?_, fun e => by cases e⟩
  · have e : ((x.l[k], 0) :: (x, k + 1) :: st).reverse.flatMap mc = ((x, k + 1) :: st).reverse.flatMap mc ++ mc (x.l[k], 0) := by
      rw [List.reverse_cons, List.flatMap_append]; simp
    rw [e]; exact hown
  · intro _
    obtain ⟨m, hm⟩ := h.root (by simp)
    cases st with
    | nil =>
      simp only [List.getLast?_singleton, Option.some.injEq, Prod.mk.injEq] at hm
      exact ⟨k + 1, by simp [hm.1]⟩
    | cons z st => exact ⟨m, by rw [List.getLast?_cons_cons, List.getLast?_cons_cons]; rw [List.getLast?_cons_cons] at hm; exact hm⟩
  · rw [hrem]
    exact fun y hy => (h.fresh y hy).block (by omega) (hblk y.b (h.off y (h.sub y hy)).2.2.2.1 (h.off y (h.sub y hy)).1)
  · rw [hGd]; exact (h.done.push x.l[k]).keep (fun _ _ hg => hg) hcell
  · intro y hy
    obtain ⟨h1, h2, h3, h4, h5⟩ := h.off y hy
    refine ⟨?_, h2, h3, by omega, h5⟩
    rcases hat with e | e
    · have := Option.some.inj e; omega
    · omega
  · rcases hat with e | e
    · have := Option.some.inj e; omega
    · omega
  · rw [hrem]
    refine hJ _ _ _ h.jj ?_
    exact (((Below.refl lo wr).setCell (by simp only; omega) _).alloc (by rw [size_setCell]; omega) o).grown hgr (by simp; omega) (fun j e => by have := Option.some.inj e; omega)
  · obtain ⟨Z, hZ1, hZ2⟩ := h.res
    exact ⟨Z, hZ1, (hblk (lo + 1) (by omega) (by omega)).trans hZ2⟩
end Go.Proofs.YtbiacjkkgddclaaGreat
namespace Go.Proofs.YtbiacjkkgddclaaGreat
open Go Go.RowKit Go.Shelf Go.Maps

/-- all but a zone stays. -/
structure KeepZ (Z : Nat → Prop) (w w' : World) : Prop where
  os : w'.os = w.os
  tape : w'.tape = w.tape
  output : w'.output = w.output
  size : w.heap.size ≤ w'.heap.size
  block : ∀ k, k < w.heap.size → ¬ Z k → w'.heap[k]? = w.heap[k]?
theorem KeepZ.refl (Z : Nat → Prop) (w : World) : KeepZ Z w w := ⟨rfl, rfl, rfl, Nat.le_refl _, fun _ _ _ => rfl⟩
theorem KeepZ.trans {Z : Nat → Prop} {a b c : World} (h : KeepZ Z a b) (h' : KeepZ Z b c) : KeepZ Z a c :=
  ⟨h'.os.trans h.os, h'.tape.trans h.tape, h'.output.trans h.output, Nat.le_trans h.size h'.size, fun k hk hn => (h'.block k (Nat.lt_of_lt_of_le hk h.size) hn).trans (h.block k hk hn)⟩
theorem KeepZ.of {Z : Nat → Prop} {a b : World} (h : Below a.heap.size a b) : KeepZ Z a b := ⟨h.os, h.tape, h.output, h.size, fun k hk _ => h.block k hk⟩
theorem KeepZ.mono {Z Z' : Nat → Prop} {a b : World} (h : KeepZ Z a b) (hz : ∀ k, Z k → Z' k) : KeepZ Z' a b := ⟨h.os, h.tape, h.output, h.size, fun k hk hn => h.block k hk (fun e => hn (hz k e))⟩
end Go.Proofs.YtbiacjkkgddclaaGreat
namespace Go.Proofs.YtbiacjkkgddclaaGreat
set_option linter.unusedSimpArgs false
set_option linter.unusedVariables false
open Go Go.RowKit Go.Shelf Go.Maps

/-- a write as it lies in memory. -/
def wrA (m : Wr) (A : Option Addr) (c : Nat) (Ao : Option Addr) (co : Nat) : Array Value := (m.id.cs ++ (contA m.x A c).toList ++ ([.slice Ao m.o.length co] : List Value)).toArray
theorem wrA_size (m : Wr) (A : Option Addr) (c : Nat) (Ao : Option Addr) (co : Nat) : (wrA m A c Ao co).size = 32 := rfl
theorem wrA_one (m : Wr) (A : Option Addr) (c : Nat) (Ao : Option Addr) (co : Nat) : (wrA m A c Ao co).all (·.oneCell') = true := by
  refine all_oneCell_toArray (fun u hu => ?_)
  simp only [List.mem_append, List.mem_singleton] at hu
  rcases hu with (h | h) | rfl
  · simp only [Ik.cs, List.mem_cons, List.not_mem_nil, or_false] at h
    rcases h with rfl | rfl <;> rfl
  · have := cont_one m.x A c
    rw [Array.all_eq_true_iff_forall_mem] at this
    exact this u (by simpa using h)
  · rfl
/-- a write that may lie in a register. -/
structure Wr.fit (m : Wr) : Prop where
  id : m.id.ok
  v : m.x.v.ok
  d : m.x.t.d.ok
  size : m.x.t.size ≤ 1048576
  right : rightC m.x = true
  dated : datedB m = true
  o : ∀ k ∈ m.o, k.ok
  few : m.o.length ≤ 100000
def zWr : Wr := ⟨⟨0, 0⟩, zCt, []⟩
theorem heldW_wr (m : Wr) (A : Option Addr) (c : Nat) (Ao : Option Addr) (co : Nat) : heldW (.agg (wrA m A c Ao co)) = some (.held (.agg (wrA m A c Ao co)), []) := by
  unfold heldW
  exact if_pos ⟨rfl, wrA_one m A c Ao co⟩
/-- a register's map stands for a row of writes; their trees, and what they were written over, lie in Z. -/
structure RepW (W : World) (Z : Nat → Prop) (D : DataW Value) (M : List Wr) : Prop where
  tidy : Tidy D
  order : OrdW M
  has : ∀ a : Ik, a.ok → Maps.has D a.key = decide (a ∈ idsW M)
  val : ∀ m ∈ M, ∃ A c Ao co, D.atKey m.id.key (.held (.agg (wrA zWr none 0 none 0))) = .held (.agg (wrA m A c Ao co)) ∧ SlG W (fun b _ => Z b) A c m.x.t.l ∧ IkG W Z Ao co m.o
  ok : ∀ m ∈ M, m.fit
  size : Maps.size D = M.length
theorem RepW.empty (W : World) (Z : Nat → Prop) : RepW W Z (.map []) [] :=
  ⟨tidy_empty, List.Pairwise.nil, fun _ _ => rfl, fun _ h => (List.not_mem_nil h).elim, fun _ h => (List.not_mem_nil h).elim, rfl⟩
theorem RepW.keep {W W' : World} {Z Z' : Nat → Prop} {D : DataW Value} {M : List Wr} (h : RepW W Z D M) (hz : ∀ b, Z b → Z' b) (hk : ∀ b, Z b → W'.heap[b]? = W.heap[b]?) : RepW W' Z' D M := by
  refine ⟨h.tidy, h.order, h.has, fun m hm => ?_, h.ok, h.size⟩
  obtain ⟨A, c, Ao, co, h1, h2, h3⟩ := h.val m hm
  exact ⟨A, c, Ao, co, h1, h2.keep (fun b _ hb => hz b hb) (fun b o hb j _ => World.cell?_of_block (a := ⟨b, o + j, none⟩) (hk b hb)), h3.keep (fun k hk' => ⟨hk k hk', hz k hk'⟩)⟩
theorem ik_lit {a : Ik} (h : a.ok) : WideAt.IsKeyLit a.key := ik_law.key (ik_key a h)
theorem idsW_ins (w : Wr) (M : List Wr) (k : Ik) : k ∈ idsW (insW w M) ↔ k = w.id ∨ k ∈ idsW M := by
  unfold idsW
  simp only [List.mem_map]
  constructor
  · rintro ⟨m, hm, rfl⟩
    rcases insW_mem.1 hm with rfl | hm
    · exact .inl rfl
    · exact .inr ⟨m, hm, rfl⟩
  · rintro (rfl | ⟨m, hm, rfl⟩)
    · exact ⟨w, insW_mem.2 (.inl rfl), rfl⟩
    · exact ⟨m, insW_mem.2 (.inr hm), rfl⟩
theorem RepW.put {W W' : World} {Z Z' : Nat → Prop} {D : DataW Value} {M : List Wr} (h : RepW W Z D M) (hz : ∀ b, Z b → Z' b) (hk : ∀ b, Z b → W'.heap[b]? = W.heap[b]?) {m : Wr} (hm : m.fit) (hno : m.id ∉ idsW M) {A : Option Addr} {c : Nat} {Ao : Option Addr} {co : Nat} (hs : SlG W' (fun b _ => Z' b) A c m.x.t.l) (ho : IkG W' Z' Ao co m.o) :
    RepW W' Z' (D.put m.id.key (.held (.agg (wrA m A c Ao co)))) (insW m M) := by
  have hne : ∀ {b : Ik}, b.ok → b ≠ m.id → b.key ≠ m.id.key := fun hb hn e => hn (ik_inj hb hm.id e)
  have hlit := ik_lit hm.id
  refine ⟨h.tidy.put hlit _, insW_order h.order hno, fun b hb => ?_, fun y hy => ?_, fun y hy => ?_, ?_⟩
  · by_cases e : b = m.id
    · subst e
      rw [has_put_same h.tidy.isMap hlit, decide_eq_true ((idsW_ins m M _).2 (.inl rfl))]
    · rw [has_put_other (hne hb e), h.has b hb, decide_eq_decide]
      rw [idsW_ins]
      constructor
      · exact .inr
      · rintro (h' | h')
        · exact absurd h' e
        · exact h'
  · rcases insW_mem.1 hy with rfl | hy'
    · exact ⟨A, c, Ao, co, atKey_put_same h.tidy.isMap hlit _ _, hs, ho⟩
    · have e : y.id ≠ m.id := fun e => hno (List.mem_map.2 ⟨y, hy', e⟩)
      obtain ⟨A', c', Ao', co', h1, h2, h3⟩ := h.val y hy'
      exact ⟨A', c', Ao', co', (atKey_put_other (hne (h.ok y hy').id e) _ _).trans h1, h2.keep (fun b _ hb => hz b hb) (fun b o hb j _ => World.cell?_of_block (a := ⟨b, o + j, none⟩) (hk b hb)), h3.keep (fun k hk' => ⟨hk k hk', hz k hk'⟩)⟩
  · rcases insW_mem.1 hy with rfl | hy'
    · exact hm
    · exact h.ok y hy'
  · rw [size_put h.tidy, h.has _ hm.id, decide_eq_false hno, insW_len, h.size]
    simp
/-- a register, in a zone. -/
def RgZ (W : World) (p n : Nat) (M : List Wr) (Z : Nat → Prop) : Prop :=
  ∃ m D T, RgAt W p m n D ∧ RepW W T D M ∧ Z p ∧ (∀ b, m = some b → Z b) ∧ ∀ b, T b → Z b ∧ b ≠ p ∧ m ≠ some b ∧ b < W.heap.size
theorem RgZ.keep {W W' : World} {p n : Nat} {M : List Wr} {Z Z' : Nat → Prop} (h : RgZ W p n M Z) (hk : KeepZ Z' W W') (hd : ∀ k, Z k → ¬ Z' k) : RgZ W' p n M Z := by
  obtain ⟨m, D, T, h1, h3, h4, h5, h6⟩ := h
  refine ⟨m, D, T, h1.keep (hk.block p (Array.getElem?_eq_some_iff.1 h1.1).1 (hd p h4)) (fun b e => ?_), h3.keep (fun _ h => h) (fun b hb => hk.block b (h6 b hb).2.2.2 (hd b (h6 b hb).1)), h4, h5, fun b hb => ⟨(h6 b hb).1, (h6 b hb).2.1, (h6 b hb).2.2.1, Nat.lt_of_lt_of_le (h6 b hb).2.2.2 hk.size⟩⟩
  subst e
  obtain ⟨es, clock, e1, e2⟩ := h1.2
  exact hk.block b (Array.getElem?_eq_some_iff.1 e1).1 (hd b (h5 b rfl))
theorem RgZ.below {W W' : World} {p n : Nat} {M : List Wr} {Z : Nat → Prop} (h : RgZ W p n M Z) (hb : Below W.heap.size W W') : RgZ W' p n M Z := h.keep (Z' := fun _ => False) (KeepZ.of hb) (fun _ _ h => h)
theorem RgZ.zone {W : World} {p n : Nat} {M : List Wr} {Z Z' : Nat → Prop} (h : RgZ W p n M Z) (hz : ∀ b, Z b → Z' b) : RgZ W p n M Z' := by
  obtain ⟨m, D, T, h1, h3, h4, h5, h6⟩ := h
  exact ⟨m, D, T, h1, h3, hz _ h4, fun b e => hz b (h5 b e), fun b hb => ⟨hz b (h6 b hb).1, (h6 b hb).2⟩⟩
theorem RgZ.more {W : World} {p n n' : Nat} {M : List Wr} {Z : Nat → Prop} (h : RgZ W p n M Z) (hn : n ≤ n') : RgZ W p n' M Z := by
  obtain ⟨m, D, T, ⟨h1, h2⟩, h3, h4⟩ := h
  refine ⟨m, D, T, ⟨h1, ?_⟩, h3, h4⟩
  cases m with
  | none => exact h2
  | some g => exact World.ownsMap.mono h2 hn
end Go.Proofs.YtbiacjkkgddclaaGreat
