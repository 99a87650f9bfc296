/- Trees in memory of their own. -/
import Derived.Test.YtbkmnboicihchaaPn
namespace Go.Proofs.Ytbkmnboicihchaa
set_option linter.unusedSimpArgs false
set_option linter.unusedVariables false
open Go.RowKit Go.Shelf

theorem AT.ind {P : AT → Prop} (h : ∀ b o d l, (∀ t ∈ l, P t) → P (.mk b o d l)) (t : AT) : P t :=
  AT.rec (motive_1 := P) (motive_2 := fun l => ∀ t ∈ l, P t) (fun b o d l ih => h b o d l ih) (fun t ht => by cases ht)
    (fun t ts iht ihts x hx => by
      rcases List.mem_cons.1 hx with rfl | hx
      · exact iht
      · exact ihts x hx) t
mutual
/-- all nodes, those below behind. -/
def AT.all : AT → List AT
  | .mk b o d l => .mk b o d l :: AT.alls l
def AT.alls : List AT → List AT
  | [] => []
  | t :: ts => t.all ++ AT.alls ts
end
theorem AT.alls_flat : ∀ l : List AT, AT.alls l = l.flatMap AT.all
  | [] => by simp [AT.alls]
  | t :: ts => by simp [AT.alls, AT.alls_flat ts]
theorem AT.all_mk (b o : Nat) (d : ND) (l : List AT) : (AT.mk b o d l).all = .mk b o d l :: l.flatMap AT.all := by simp [AT.all, AT.alls_flat]
def AT.ad (x : AT) : Nat × Nat := (x.b, x.o)
/-- a node in new memory. -/
def FreshAt (w : World) (lo : Nat) (x : AT) : Prop :=
  lo ≤ x.b ∧ x.b < w.heap.size ∧ x.o % 22 = 0 ∧ x.d.ok ∧ (∀ o, w.frozen? ⟨x.b, o, none⟩ = false) ∧ ∃ A c, NodeCells w x.b x.o x.d A x.l.length c ∧ x.l.length ≤ c ∧ c ≤ 9223372036854775807 ∧ (x.l = [] ∨ ∃ b', A = some ⟨b', 0, none⟩ ∧ ∀ i (h : i < x.l.length), x.l[i].ad = (b', i * 22))
/-- the nodes below one, in new memory, each node apart from all others. -/
structure FreshKids (w : World) (lo : Nat) (A : Option Addr) (c : Nat) (ks : List AT) : Prop where
  cap : ks.length ≤ c
  max : c ≤ 9223372036854775807
  at_ : ks = [] ∨ ∃ b', A = some ⟨b', 0, none⟩ ∧ ∀ i (h : i < ks.length), ks[i].ad = (b', i * 22)
  nodup : ((ks.flatMap AT.all).map AT.ad).Nodup
  ok : ∀ x ∈ ks.flatMap AT.all, FreshAt w lo x
theorem FreshAt.block {w w' : World} {lo : Nat} {x : AT} (h : FreshAt w lo x) (hs : w.heap.size ≤ w'.heap.size) (hb : w'.heap[x.b]? = w.heap[x.b]?) : FreshAt w' lo x := by
  obtain ⟨h1, h2, h3, h4, h5, A, c, h6, h7⟩ := h
  exact ⟨h1, by omega, h3, h4, fun o => by have := h5 o; unfold World.frozen? at this ⊢; rw [hb]; exact this, A, c, h6.keep (fun p hp => World.cell?_of_block (a := p) (by rw [hp]; exact hb)), h7⟩
theorem FreshKids.block {w w' : World} {lo : Nat} {A : Option Addr} {c : Nat} {ks : List AT} (h : FreshKids w lo A c ks) (hs : w.heap.size ≤ w'.heap.size) (hb : ∀ b, lo ≤ b → b < w.heap.size → (∃ x ∈ ks.flatMap AT.all, x.b = b) → w'.heap[b]? = w.heap[b]?) : FreshKids w' lo A c ks :=
  ⟨h.cap, h.max, h.at_, h.nodup, fun x hx => (h.ok x hx).block hs (hb x.b (h.ok x hx).1 (h.ok x hx).2.1 ⟨x, hx, rfl⟩)⟩
theorem FreshKids.below {w w' : World} {lo : Nat} {A : Option Addr} {c : Nat} {ks : List AT} (h : FreshKids w lo A c ks) (hb : Below w.heap.size w w') : FreshKids w' lo A c ks :=
  h.block hb.size (fun b _ h2 _ => hb.block b h2)
theorem fresh_node {w : World} {lo B : Nat} (hB : w.heap.size ≤ B) (x : AT) : (∀ y ∈ x.all, FreshAt w lo y) → NodeAt w B x.b x.o x.tr := by
  induction x using AT.ind with
  | _ b o d l ih =>
    intro h
    obtain ⟨h1, h2, h3, h4, h5, A, c, h6, h7, h8, h9⟩ := h (.mk b o d l) (by rw [AT.all_mk]; simp)
    have htr : (AT.mk b o d l).tr = .mk d (l.map AT.tr) := by simp [AT.tr, AT.trs_map]
    rw [htr]
    have hlen : (Tr.mk d (l.map AT.tr)).l.length = l.length := by simp [Tr.l]
    refine NodeAt.mk (by have : b < w.heap.size := h2; exact Nat.lt_of_lt_of_le this hB) h4 (A := A) (c := c) (by rw [hlen]; exact h6) ⟨by rw [hlen]; exact h7, h8, ?_⟩
    rcases h9 with h9 | ⟨b', hA, h9⟩
    · exact .inl (by have : l = [] := h9; simp [Tr.l, this])
    · refine .inr ⟨b', 0, hA, KidsAt.of (fun i hi => ?_)⟩
      have hi' : i < l.length := by rw [hlen] at hi; exact hi
      have e : (Tr.mk d (l.map AT.tr)).l[i] = l[i].tr := by simp [Tr.l]
      have ha : l[i].ad = (b', i * 22) := h9 i hi'
      have e2 : l[i].b = b' ∧ l[i].o = i * 22 := by simpa [AT.ad] using ha
      have := ih l[i] (List.getElem_mem hi') (fun y hy => h y (by rw [AT.all_mk]; exact List.mem_cons_of_mem _ (List.mem_flatMap.2 ⟨_, List.getElem_mem hi', hy⟩)))
      rw [e, Nat.zero_add, ← e2.1, ← e2.2]; exact this
theorem FreshKids.sl {w : World} {lo B : Nat} {A : Option Addr} {c : Nat} {ks : List AT} (h : FreshKids w lo A c ks) (hB : w.heap.size ≤ B) : SlAt w B A c (ks.map AT.tr) := by
  refine ⟨by rw [List.length_map]; exact h.cap, h.max, ?_⟩
  rcases h.at_ with rfl | ⟨b', hA, h9⟩
  · exact .inl rfl
  · refine .inr ⟨b', 0, hA, KidsAt.of (fun i hi => ?_)⟩
    have hi' : i < ks.length := by rw [List.length_map] at hi; exact hi
    have e2 : ks[i].b = b' ∧ ks[i].o = i * 22 := by simpa [AT.ad] using h9 i hi'
    rw [List.getElem_map, Nat.zero_add, ← e2.1, ← e2.2]
    exact fresh_node hB _ (fun y hy => h.ok y (List.mem_flatMap.2 ⟨_, List.getElem_mem hi', hy⟩))
/-- a copy that is done. -/
theorem PT.at_ad (x : PT) : x.at_.ad = x.ad := by obtain ⟨b, o, d, p, l⟩ := x; rw [PT.at_mk]; rfl
theorem PT.all_at (x : PT) : x.at_.all.map AT.ad = x.adrs := by
  induction x using PT.ind with
  | _ b o d p l ih =>
    rw [PT.at_mk, AT.all_mk, PT.adrs_mk, List.map_cons, List.flatMap_map, List.map_flatMap]
    refine congr (congrArg List.cons rfl) ?_
    have : ∀ m : List PT, (∀ t ∈ m, t ∈ l) → (m.flatMap fun t => t.at_.all.map AT.ad) = m.flatMap PT.adrs := by
      intro m
      induction m with
      | nil => intro _; rfl
      | cons a m ihm => intro hm; rw [List.flatMap_cons, List.flatMap_cons, ih a (hm a (by simp)), ihm (fun t ht => hm t (by simp [ht]))]
    exact this l (fun _ h => h)
theorem PT.all_ok {W0 w : World} {lo : Nat} (x : PT) : (∀ i ∈ x.its, ItOk W0 lo w i ∧ i.p = []) → ∀ y ∈ x.at_.all, FreshAt w lo y := by
  induction x using PT.ind with
  | _ b o d p l ih =>
    intro h y hy
    rw [PT.at_mk, AT.all_mk] at hy
    rcases List.mem_cons.1 hy with rfl | hy
    · obtain ⟨⟨h1, h2, h3, h4, h5, A, c, h6, h7, h8, h9, h10⟩, hp⟩ := h ⟨b, o, d, p, l.map PT.ad⟩ (by rw [PT.its_mk]; simp)
      have hp' : p = [] := hp
      subst hp'
      simp only [List.length_nil, Nat.zero_add, List.length_map] at h6 h7
      refine ⟨h1, h2, h3, h4, h5, A, c, by rw [show (AT.mk b o d (l.map PT.at_)).l.length = l.length from by simp [AT.l]]; exact h6, by rw [show (AT.mk b o d (l.map PT.at_)).l.length = l.length from by simp [AT.l]]; exact h7, h8, ?_⟩
      rcases h10 with h10 | ⟨b', hA, h10⟩
      · exact .inl (by have e0 : l = [] := (by simpa using h10); rw [e0]; rfl)
      · refine .inr ⟨b', hA, fun i hi => ?_⟩
        have hi' : i < l.length := by simpa [AT.l] using hi
        have := h10 i (by simpa using hi')
        simp only [List.getElem_map] at this
        have e : (AT.mk b o d (l.map PT.at_)).l[i] = l[i].at_ := by simp [AT.l]
        rw [e, PT.at_ad]; exact this
    · rw [List.flatMap_map] at hy
      obtain ⟨t, ht, hy⟩ := List.mem_flatMap.1 hy
      exact ih t ht (fun i hi => h i (by rw [PT.its_mk]; exact List.mem_cons_of_mem _ (List.mem_flatMap.2 ⟨t, ht, hi⟩))) y hy
theorem PT.all_far (x : PT) (r : Nat) : (∀ i ∈ x.its, i.b ≠ r) → ∀ y ∈ x.at_.all, y.b ≠ r := by
  intro h y hy
  have h1 : y.ad ∈ x.adrs := by rw [← PT.all_at]; exact List.mem_map.2 ⟨y, hy, rfl⟩
  obtain ⟨i, hi, he⟩ := List.mem_map.1 h1
  have h2 : i.b = y.b := congrArg Prod.fst he
  rw [← h2]; exact h i hi
theorem Cop.done {W0 w : World} {lo : Nat} {t : Tr} {a : PT} (h : Cop W0 lo t w a) (r : Nat) (hp : ∀ x ∈ a.its, x.p = []) (hr : ∀ x ∈ a.its, x.b ≠ r) : ∃ A c ks, NodeCells w lo 0 t.d A t.l.length c ∧ t.d.ok ∧ ks.map AT.tr = t.l ∧ FreshKids w lo A c ks ∧ ∀ x ∈ ks.flatMap AT.all, x.b ≠ r := by
  have hfar := PT.all_far a r hr
  have htr := PT.at_tr a hp
  have hall := PT.all_ok a (fun i hi => ⟨h.ok i hi, hp i hi⟩)
  have hnd := h.nodup
  rw [← PT.all_at] at hnd
  have had := PT.at_ad a
  rw [h.ad] at had
  rw [h.tr] at htr
  generalize a.at_ = q at htr hall hnd had hfar
  obtain ⟨b, o, d, l⟩ := q
  simp only [AT.ad, AT.b, AT.o, Prod.mk.injEq] at had
  obtain ⟨rfl, rfl⟩ := had
  have htr' : (AT.mk b 0 d l).tr = .mk d (l.map AT.tr) := by simp [AT.tr, AT.trs_map]
  rw [htr'] at htr
  subst htr
  obtain ⟨h1, h2, h3, h4, h5, A, c, h6, h7, h8, h9⟩ := hall (.mk b 0 d l) (by rw [AT.all_mk]; simp)
  rw [AT.all_mk] at hall hnd hfar
  refine ⟨A, c, l, by simp only [Tr.d, Tr.l, List.length_map]; exact h6, h4, rfl, ⟨h7, h8, h9, ?_, fun x hx => hall x (List.mem_cons_of_mem _ hx)⟩, fun x hx => hfar x (List.mem_cons_of_mem _ hx)⟩
  rw [List.map_cons, List.nodup_cons] at hnd
  exact hnd.2
end Go.Proofs.Ytbkmnboicihchaa
