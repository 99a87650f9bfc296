/- Whole nodes that are built, laid into variables and stored. Contents in memory: variables, cells, ranges. Trees that are being copied: the lists of some nodes are still the old ones. No program in sight. Trees that are being copied, in memory. A step of tree.copied. -/
import Derived.Test.YtbiacjkkgddclaaGreatNdSr
import Derived.Laws.Tables
import Derived.Great.Walk
import Derived.Test.YtbiacjkkgddclaaGreatRiCkXb
import Derived.Test.YtbiacjkkgddclaaGreatAt
namespace Go.Proofs.YtbiacjkkgddclaaGreat
open Go.RowKit Go.Shelf

theorem alloc_setRow (w : World) (old cs : Array Value) (t : TypeId) (fr : Nat × Nat) : (w.alloc (.cells old t fr)).setRow w.heap.size cs = w.alloc (.cells cs t fr) := by
  unfold World.setRow World.alloc
  congr 1
  apply Array.ext
  · simp
  · intro i h1 h2
    simp only [Array.getElem_modify, Array.getElem_push]
    by_cases hi : w.heap.size = i
    · subst hi; simp
    · have h3 : i < w.heap.size := by simp at h1; omega
      simp [hi, h3]
theorem below_row {B g : Nat} {a w : World} (h : Below B a w) (hg : B ≤ g) (cs : Array Value) : Below B a (w.setRow g cs) :=
  ⟨h.os, h.tape, h.output, by simpa using h.size, fun b hb => (setRow_other _ _ _ _ (by omega)).trans (h.block b hb)⟩
theorem infS {N : Array Value} (h : N.size = 22) : (Tryz.prog.info? 35).map (·.size) = some N.size := by rw [h]; exact infN
/-- a struct is stored into a variable that was just laid. -/
theorem wpList_storeFresh {P : Program} {ops : Array Oper} {rest : List Oper} {o : Oper} {a : Act} {w : World} {Q : Exit → Act → World → Prop} {old : Array Value} {t : TypeId} (hgd : o.guard = none) (ty : TypeId) (x y : Operand) (ho : o.op = .store ty x y)
    (g : Nat) (hg : w.heap.size = g) (cells : Array Value) (hx : a.eval x = .pointer (some ⟨g, 0, none⟩)) (hy : a.eval y = .agg cells) (hi : (P.info? ty).map (·.size) = some cells.size) (hold : old.size = cells.size) (h1 : cells.all (·.oneCell') = true)
    (h : wpList P ops Q rest (a.put o.dst undef) (w.alloc (.cells cells t))) : wpList P ops Q (o :: rest) a (w.alloc (.cells old t)) := by
  subst hg
  refine wpList_store_row hgd ty x y ho w.heap.size cells hx hy t old (World.alloc_heap_new w _) hi hold h1 ?_
  rw [alloc_setRow]; exact h
/-- a struct is built. -/
theorem wpList_buildSome {P : Program} {ops : Array Oper} {rest : List Oper} {o : Oper} {a : Act} {w : World} {Q : Exit → Act → World → Prop} (hg : o.guard = none) (t : TypeId) (parts : Array (Nat × Operand)) (ho : o.op = .build t parts) (cells : Array Value)
    (hf : P.built t (parts.map fun (i, x) => (i, a.eval x)).toList = some cells) (h : wpList P ops Q rest (a.put o.dst (.agg cells)) w) : wpList P ops Q (o :: rest) a w := by
  refine wpList_build hg t parts ho (by rw [hf]; rfl) ?_
  rw [hf]; exact h
/-- a variable for a node is laid. -/
theorem wpList_nodeVar {ops : Array Oper} {rest : List Oper} {o : Oper} {a : Act} {w : World} {Q : Exit → Act → World → Prop} (hg : o.guard = none) (ho : o.op = .alloc 35) (g : Nat) (hz : w.heap.size = g)
    (h : wpList Tryz.prog ops Q rest (a.put o.dst (.pointer (some ⟨g, 0, none⟩))) (w.alloc (.cells (nodeA ⟨0, ⟨0, 0, 0, ByteArray.mk #[], false, 0⟩, ByteArray.mk #[], ⟨0, 0, 0, 0, false, false⟩, ⟨0, 0, 0, 0, false, false⟩, 0⟩ none 0 0) 35))) : wpList Tryz.prog ops Q (o :: rest) a w := by
  subst hz
  refine Great.wpList_allocTo hg o.dst rfl _ _ ?_ h
  unfold execOp
  simp only [ho]
  kernel_rfl
end Go.Proofs.YtbiacjkkgddclaaGreat
namespace Go.Proofs.YtbiacjkkgddclaaGreat
open Go Go.RowKit Go.Shelf

/-- a variable for a content is laid. -/
theorem wpList_contVar {ops : Array Oper} {rest : List Oper} {o : Oper} {a : Act} {w : World} {Q : Exit → Act → World → Prop} (hg : o.guard = none) (ho : o.op = .alloc 37) (g : Nat) (hz : w.heap.size = g)
    (h : wpList Tryz.prog ops Q rest (a.put o.dst (.pointer (some ⟨g, 0, none⟩))) (w.alloc (.cells (contA zCt none 0) 37))) : wpList Tryz.prog ops Q (o :: rest) a w := by
  subst hz
  refine Great.wpList_allocTo hg o.dst rfl _ _ ?_ h
  unfold execOp
  simp only [ho]
  kernel_rfl
theorem cont_one (x : Ct) (A : Option Addr) (c : Nat) : (contA x A c).all (·.oneCell') = true := by
  refine all_oneCell_toArray (fun u hu => ?_)
  rcases List.mem_append.1 hu with h | h
  · simp only [Ct.head, Vl.cells, List.mem_cons, List.not_mem_nil, or_false] at h
    rcases h with rfl | rfl | rfl | rfl | rfl | rfl | rfl <;> rfl
  · exact head_one _ _ _ _ u (by simpa [nodeA] using h)
theorem there_row {w : World} {g : Nat} {cs : Array Value} {t : TypeId} (h : w.heap[g]? = some (.cells cs t)) (o n : Nat) (hn : o + n ≤ cs.size) : w.there g o n := by
  intro j hj
  refine ⟨?_, ?_⟩
  · simp only [World.cell?, h]
    simp; omega
  · simp only [World.frozen?, h]
    simp
theorem range_join {w : World} {b o : Nat} {l l' : List Value} (h : w.rangeAt b o l) (h' : w.rangeAt b (o + l.length) l') : w.rangeAt b o (l ++ l') := by
  intro j v hv
  by_cases hj : j < l.length
  · exact h j v (by rwa [List.getElem?_append_left hj] at hv)
  · rw [List.getElem?_append_right (by omega)] at hv
    have := h' _ v hv
    rwa [show o + l.length + (j - l.length) = o + j by omega] at this
end Go.Proofs.YtbiacjkkgddclaaGreat
namespace Go.Proofs.YtbiacjkkgddclaaGreat
open Go.RowKit

/-- a tree in new memory; p: the list of a node whose list is still the old one. -/
inductive PT where
  | mk (b o : Nat) (d : ND) (p : List Tr) (l : List PT)
/-- a node of it, with where those below it lie. -/
structure It where
  b : Nat
  o : Nat
  d : ND
  p : List Tr
  ks : List (Nat × Nat)
def It.ad (x : It) : Nat × Nat := (x.b, x.o)
def PT.ad : PT → Nat × Nat | .mk b o _ _ _ => (b, o)
theorem PT.ind {P : PT → Prop} (h : ∀ b o d p l, (∀ t ∈ l, P t) → P (.mk b o d p l)) (t : PT) : P t :=
  PT.rec (motive_1 := P) (motive_2 := fun l => ∀ t ∈ l, P t) (fun b o d p l ih => h b o d p l ih) (fun t ht => by cases ht)
    (fun t ts iht ihts x hx => by
      rcases List.mem_cons.1 hx with rfl | hx
      · exact iht
      · exact ihts x hx) t
mutual
def PT.tr : PT → Tr
  | .mk _ _ d p l => .mk d (p ++ PT.trs l)
def PT.trs : List PT → List Tr
  | [] => []
  | t :: ts => t.tr :: PT.trs ts
end
mutual
def PT.its : PT → List It
  | .mk b o d p l => ⟨b, o, d, p, l.map PT.ad⟩ :: PT.itss l
def PT.itss : List PT → List It
  | [] => []
  | t :: ts => t.its ++ PT.itss ts
end
mutual
/-- the node at an address gets its new list. -/
def PT.sub (b o : Nat) (k : List PT) : PT → PT
  | .mk b' o' d p l => if b' = b ∧ o' = o then .mk b' o' d [] k else .mk b' o' d p (PT.subs b o k l)
def PT.subs (b o : Nat) (k : List PT) : List PT → List PT
  | [] => []
  | t :: ts => PT.sub b o k t :: PT.subs b o k ts
end
theorem PT.trs_map : ∀ l : List PT, PT.trs l = l.map PT.tr
  | [] => by simp [PT.trs]
  | t :: ts => by simp [PT.trs, PT.trs_map ts]
theorem PT.itss_flat : ∀ l : List PT, PT.itss l = l.flatMap PT.its
  | [] => by simp [PT.itss]
  | t :: ts => by simp [PT.itss, PT.itss_flat ts]
theorem PT.subs_map (b o : Nat) (k : List PT) : ∀ l : List PT, PT.subs b o k l = l.map (PT.sub b o k)
  | [] => by simp [PT.subs]
  | t :: ts => by simp [PT.subs, PT.subs_map b o k ts]
theorem PT.tr_mk (b o : Nat) (d : ND) (p : List Tr) (l : List PT) : (PT.mk b o d p l).tr = .mk d (p ++ l.map PT.tr) := by simp [PT.tr, PT.trs_map]
theorem PT.its_mk (b o : Nat) (d : ND) (p : List Tr) (l : List PT) : (PT.mk b o d p l).its = ⟨b, o, d, p, l.map PT.ad⟩ :: l.flatMap PT.its := by simp [PT.its, PT.itss_flat]
theorem PT.sub_mk (b o : Nat) (k : List PT) (b' o' : Nat) (d : ND) (p : List Tr) (l : List PT) : (PT.mk b' o' d p l).sub b o k = if b' = b ∧ o' = o then .mk b' o' d [] k else .mk b' o' d p (l.map (PT.sub b o k)) := by
  rw [PT.sub, PT.subs_map]
theorem PT.ad_sub (b o : Nat) (k : List PT) (x : PT) : (x.sub b o k).ad = x.ad := by
  obtain ⟨b', o', d, p, l⟩ := x
  rw [PT.sub_mk]
  split <;> rfl
/-- the addresses of all nodes. -/
def PT.adrs (x : PT) : List (Nat × Nat) := x.its.map It.ad
theorem PT.adrs_mk (b o : Nat) (d : ND) (p : List Tr) (l : List PT) : (PT.mk b o d p l).adrs = (b, o) :: l.flatMap PT.adrs := by
  simp only [PT.adrs, PT.its_mk, List.map_cons, List.map_flatMap]
  rfl
theorem PT.sub_none (b o : Nat) (k : List PT) (x : PT) : (b, o) ∉ x.adrs → x.sub b o k = x := by
  induction x using PT.ind with
  | _ b' o' d p l ih =>
    intro h
    rw [PT.adrs_mk] at h
    simp only [List.mem_cons, List.mem_flatMap, not_or, not_exists, not_and] at h
    rw [PT.sub_mk, if_neg (fun e => h.1 (by rw [e.1, e.2]))]
    congr 1
    conv => rhs; rw [← List.map_id l]
    exact List.map_congr_left fun t ht => ih t ht (h.2 t ht)
/-- the nodes behind a replacing. -/
theorem PT.its_sub (b o : Nat) (k : List PT) (x : PT) : ∀ i ∈ (x.sub b o k).its, (i ∈ x.its ∧ i.ad ≠ (b, o)) ∨ i ∈ k.flatMap PT.its ∨ (i.ad = (b, o) ∧ i.p = [] ∧ i.ks = k.map PT.ad ∧ ∃ j ∈ x.its, j.ad = (b, o) ∧ i.d = j.d) := by
  induction x using PT.ind with
  | _ b' o' d p l ih =>
    intro i hi
    rw [PT.sub_mk] at hi
    by_cases e : b' = b ∧ o' = o
    · rw [if_pos e, PT.its_mk] at hi
      rcases List.mem_cons.1 hi with rfl | hi
      · exact .inr (.inr ⟨by simp [It.ad, e.1, e.2], rfl, rfl, ⟨b', o', d, p, l.map PT.ad⟩, by rw [PT.its_mk]; simp, by simp [It.ad, e.1, e.2], rfl⟩)
      · exact .inr (.inl hi)
    · rw [if_neg e, PT.its_mk] at hi
      rcases List.mem_cons.1 hi with rfl | hi
      · refine .inl ⟨?_, fun h => e (by simpa [It.ad] using h)⟩
        rw [PT.its_mk, List.map_map]
        have : (l.map (PT.ad ∘ PT.sub b o k)) = l.map PT.ad := List.map_congr_left fun t _ => PT.ad_sub b o k t
        rw [this]; simp
      · rw [List.flatMap_map] at hi
        obtain ⟨t, ht, hit⟩ := List.mem_flatMap.1 hi
        rcases ih t ht i hit with ⟨h1, h2⟩ | h | ⟨h1, h2, h3, j, h4, h5⟩
        · exact .inl ⟨by rw [PT.its_mk]; exact List.mem_cons_of_mem _ (List.mem_flatMap.2 ⟨t, ht, h1⟩), h2⟩
        · exact .inr (.inl h)
        · exact .inr (.inr ⟨h1, h2, h3, j, by rw [PT.its_mk]; exact List.mem_cons_of_mem _ (List.mem_flatMap.2 ⟨t, ht, h4⟩), h5⟩)
/-- what stays. -/
theorem PT.mem_sub (b o : Nat) (k : List PT) (x : PT) : (∀ j ∈ x.its, j.ad = (b, o) → j.ks = []) → ∀ i ∈ x.its, i.ad ≠ (b, o) → i ∈ (x.sub b o k).its := by
  induction x using PT.ind with
  | _ b' o' d p l ih =>
    intro hl i hi hn
    rw [PT.sub_mk]
    by_cases e : b' = b ∧ o' = o
    · have h0 := hl ⟨b', o', d, p, l.map PT.ad⟩ (by rw [PT.its_mk]; simp) (by simp [It.ad, e.1, e.2])
      have h1 : l = [] := by simpa using h0
      subst h1
      rw [PT.its_mk] at hi
      simp only [List.map_nil, List.flatMap_nil, List.mem_singleton] at hi
      subst hi
      exact absurd (by simp [It.ad, e.1, e.2]) hn
    · rw [if_neg e, PT.its_mk]
      rw [PT.its_mk] at hi
      rcases List.mem_cons.1 hi with rfl | hi
      · have : ((l.map (PT.sub b o k)).map PT.ad) = l.map PT.ad := by rw [List.map_map]; exact List.map_congr_left fun t _ => PT.ad_sub b o k t
        rw [this]; simp
      · obtain ⟨t, ht, hit⟩ := List.mem_flatMap.1 hi
        refine List.mem_cons_of_mem _ (List.mem_flatMap.2 ⟨t.sub b o k, List.mem_map.2 ⟨t, ht, rfl⟩, ih t ht (fun j hj => hl j ?_) i hit hn⟩)
        rw [PT.its_mk]; exact List.mem_cons_of_mem _ (List.mem_flatMap.2 ⟨t, ht, hj⟩)
/-- what comes. -/
theorem PT.new_sub (b o : Nat) (k : List PT) (x : PT) : (b, o) ∈ x.adrs → ∀ i ∈ k.flatMap PT.its, i ∈ (x.sub b o k).its := by
  induction x using PT.ind with
  | _ b' o' d p l ih =>
    intro h i hi
    rw [PT.sub_mk]
    by_cases e : b' = b ∧ o' = o
    · rw [if_pos e, PT.its_mk]; exact List.mem_cons_of_mem _ hi
    · rw [if_neg e, PT.its_mk]
      rw [PT.adrs_mk] at h
      rcases List.mem_cons.1 h with h | h
      · simp only [Prod.mk.injEq] at h; exact absurd ⟨h.1.symm, h.2.symm⟩ e
      · obtain ⟨t, ht, hit⟩ := List.mem_flatMap.1 h
        exact List.mem_cons_of_mem _ (List.mem_flatMap.2 ⟨t.sub b o k, List.mem_map.2 ⟨t, ht, rfl⟩, ih t ht hit i hi⟩)
theorem nodup_part {A B : Type} {f : A → List B} : ∀ {l : List A} {t : A}, (l.flatMap f).Nodup → t ∈ l → (f t).Nodup
  | a :: l, t, h, ht => by
    rw [List.flatMap_cons, List.nodup_append] at h
    rcases List.mem_cons.1 ht with rfl | ht
    · exact h.1
    · exact nodup_part h.2.1 ht
/-- the node itself. -/
theorem PT.self_sub (b o : Nat) (k : List PT) (x : PT) : ∀ j ∈ x.its, j.ad = (b, o) → x.adrs.Nodup → (⟨b, o, j.d, [], k.map PT.ad⟩ : It) ∈ (x.sub b o k).its := by
  induction x using PT.ind with
  | _ b' o' d p l ih =>
    intro j hj hja hnd
    rw [PT.sub_mk]
    rw [PT.its_mk] at hj
    rw [PT.adrs_mk] at hnd
    by_cases e : b' = b ∧ o' = o
    · rw [if_pos e, PT.its_mk]
      obtain ⟨rfl, rfl⟩ := e
      rcases List.mem_cons.1 hj with rfl | hj
      · simp
      · exfalso
        obtain ⟨t, ht, hit⟩ := List.mem_flatMap.1 hj
        exact (List.nodup_cons.1 hnd).1 (List.mem_flatMap.2 ⟨t, ht, List.mem_map.2 ⟨j, hit, hja⟩⟩)
    · rw [if_neg e, PT.its_mk]
      rcases List.mem_cons.1 hj with rfl | hj
      · exact absurd (by simpa [It.ad] using hja) e
      · obtain ⟨t, ht, hit⟩ := List.mem_flatMap.1 hj
        have h2 := (List.nodup_cons.1 hnd).2
        have h3 : t.adrs.Nodup := nodup_part h2 ht
        exact List.mem_cons_of_mem _ (List.mem_flatMap.2 ⟨t.sub b o k, List.mem_map.2 ⟨t, ht, rfl⟩, ih t ht j hit hja h3⟩)
theorem PT.tr_sub (b o : Nat) (k : List PT) (x : PT) : (∀ j ∈ x.its, j.ad = (b, o) → j.p = k.map PT.tr ∧ j.ks = []) → (x.sub b o k).tr = x.tr := by
  induction x using PT.ind with
  | _ b' o' d p l ih =>
    intro h
    rw [PT.sub_mk]
    by_cases e : b' = b ∧ o' = o
    · obtain ⟨h1, h2⟩ := h ⟨b', o', d, p, l.map PT.ad⟩ (by rw [PT.its_mk]; simp) (by simp [It.ad, e.1, e.2])
      have h3 : l = [] := by simpa using h2
      subst h3
      rw [if_pos e, PT.tr_mk, PT.tr_mk]
      simp only at h1
      simp [h1]
    · rw [if_neg e, PT.tr_mk, PT.tr_mk, List.map_map]
      congr 2
      refine List.map_congr_left fun t ht => ih t ht (fun j hj => h j ?_)
      rw [PT.its_mk]; exact List.mem_cons_of_mem _ (List.mem_flatMap.2 ⟨t, ht, hj⟩)
theorem PT.adrs_sub (b o : Nat) (k : List PT) (x : PT) : ∀ q ∈ (x.sub b o k).adrs, q ∈ x.adrs ∨ q ∈ k.flatMap PT.adrs := by
  intro q hq
  obtain ⟨i, hi, rfl⟩ := List.mem_map.1 hq
  rcases PT.its_sub b o k x i hi with ⟨h1, _⟩ | h | ⟨h1, _, _, j, h4, h5, _⟩
  · exact .inl (List.mem_map.2 ⟨i, h1, rfl⟩)
  · obtain ⟨t, ht, hit⟩ := List.mem_flatMap.1 h
    exact .inr (List.mem_flatMap.2 ⟨t, ht, List.mem_map.2 ⟨i, hit, rfl⟩⟩)
  · exact .inl (List.mem_map.2 ⟨j, h4, h5.trans h1.symm⟩)
theorem PT.nodup_sub (b o : Nat) (k : List PT) (hk : (k.flatMap PT.adrs).Nodup) (x : PT) : x.adrs.Nodup → (∀ q ∈ k.flatMap PT.adrs, q ∉ x.adrs) → (x.sub b o k).adrs.Nodup := by
  induction x using PT.ind with
  | _ b' o' d p l ih =>
    intro hx hd
    rw [PT.adrs_mk] at hx
    obtain ⟨h1, h2⟩ := List.nodup_cons.1 hx
    rw [PT.sub_mk]
    by_cases e : b' = b ∧ o' = o
    · rw [if_pos e, PT.adrs_mk]
      exact List.nodup_cons.2 ⟨fun h => hd _ h (by rw [PT.adrs_mk]; simp), hk⟩
    · rw [if_neg e, PT.adrs_mk]
      have hsub : ∀ t ∈ l, ∀ q ∈ t.adrs, q ∈ (PT.mk b' o' d p l).adrs := fun t ht q hq => by rw [PT.adrs_mk]; exact List.mem_cons_of_mem _ (List.mem_flatMap.2 ⟨t, ht, hq⟩)
      refine List.nodup_cons.2 ⟨fun h => ?_, ?_⟩
      · rw [List.flatMap_map] at h
        obtain ⟨t, ht, hit⟩ := List.mem_flatMap.1 h
        rcases PT.adrs_sub b o k t _ hit with h | h
        · exact h1 (List.mem_flatMap.2 ⟨t, ht, h⟩)
        · exact hd _ h (by rw [PT.adrs_mk]; simp)
      · have key : ∀ m : List PT, (∀ t ∈ m, t ∈ l) → (m.flatMap PT.adrs).Nodup → (m.flatMap fun t => (t.sub b o k).adrs).Nodup := by
          intro m
          induction m with
          | nil => intro _ _; simp
          | cons a m ihm =>
            intro hm hn
            rw [List.flatMap_cons, List.nodup_append] at hn
            obtain ⟨n1, n2, n3⟩ := hn
            have ha := hm a (by simp)
            rw [List.flatMap_cons, List.nodup_append]
            refine ⟨ih a ha n1 (fun q hq hq2 => hd q hq (hsub a ha q hq2)), ihm (fun t ht => hm t (by simp [ht])) n2, fun q hq r hr hqr => ?_⟩
            subst hqr
            obtain ⟨t, ht, hit⟩ := List.mem_flatMap.1 hr
            have htl := hm t (by simp [ht])
            rcases PT.adrs_sub b o k a q hq with g1 | g1 <;> rcases PT.adrs_sub b o k t q hit with g2 | g2
            · exact n3 q g1 q (List.mem_flatMap.2 ⟨t, ht, g2⟩) rfl
            · exact hd q g2 (hsub a ha q g1)
            · exact hd q g1 (hsub t htl q g2)
            · by_cases ca : (b, o) ∈ a.adrs
              · have ct : (b, o) ∉ t.adrs := fun h => n3 _ ca _ (List.mem_flatMap.2 ⟨t, ht, h⟩) rfl
                rw [PT.sub_none b o k t ct] at hit
                exact hd q g1 (hsub t htl q hit)
              · rw [PT.sub_none b o k a ca] at hq
                exact hd q g2 (hsub a ha q hq)
        have := key l (fun _ h => h) h2
        rwa [List.flatMap_map]
mutual
/-- a tree whose lists are all new, with its addresses. -/
def PT.at_ : PT → AT
  | .mk b o d _ l => .mk b o d (PT.ats l)
def PT.ats : List PT → List AT
  | [] => []
  | t :: ts => t.at_ :: PT.ats ts
end
theorem PT.ats_map : ∀ l : List PT, PT.ats l = l.map PT.at_
  | [] => by simp [PT.ats]
  | t :: ts => by simp [PT.ats, PT.ats_map ts]
theorem PT.at_mk (b o : Nat) (d : ND) (p : List Tr) (l : List PT) : (PT.mk b o d p l).at_ = .mk b o d (l.map PT.at_) := by simp [PT.at_, PT.ats_map]
theorem PT.at_tr (x : PT) : (∀ i ∈ x.its, i.p = []) → x.at_.tr = x.tr := by
  induction x using PT.ind with
  | _ b o d p l ih =>
    intro h
    have h0 : p = [] := h ⟨b, o, d, p, l.map PT.ad⟩ (by rw [PT.its_mk]; simp)
    subst h0
    rw [PT.at_mk, PT.tr_mk, AT.tr, AT.trs_map, List.map_map, List.nil_append]
    congr 1
    refine List.map_congr_left fun t ht => ih t ht (fun i hi => h i ?_)
    rw [PT.its_mk]; exact List.mem_cons_of_mem _ (List.mem_flatMap.2 ⟨t, ht, hi⟩)
end Go.Proofs.YtbiacjkkgddclaaGreat
namespace Go.Proofs.YtbiacjkkgddclaaGreat
open Go.RowKit Go.Shelf

/-- a node of the copy lies in memory: new memory from block lo on; an old list lies in W0, below lo. -/
def ItOk (W0 : World) (lo : Nat) (w : World) (x : It) : Prop :=
  lo ≤ x.b ∧ x.b < w.heap.size ∧ x.o % 22 = 0 ∧ x.d.ok ∧ (∀ o, w.frozen? ⟨x.b, o, none⟩ = false) ∧ ∃ A c, NodeCells w x.b x.o x.d A (x.p.length + x.ks.length) c ∧ x.p.length + x.ks.length ≤ c ∧ c ≤ 9223372036854775807 ∧
    (x.p = [] ∨ ∃ b' o', A = some ⟨b', o', none⟩ ∧ KidsAt W0 lo b' o' x.p) ∧ (x.ks = [] ∨ ∃ b', A = some ⟨b', 0, none⟩ ∧ ∀ i (h : i < x.ks.length), x.ks[i] = (b', i * 22))
theorem ItOk.keep {W0 w w' : World} {lo : Nat} {x : It} (h : ItOk W0 lo w x) (hs : w.heap.size ≤ w'.heap.size) (hc : ∀ j, j < 22 → w'.cell? ⟨x.b, x.o + j, none⟩ = w.cell? ⟨x.b, x.o + j, none⟩) (hf : ∀ o, w'.frozen? ⟨x.b, o, none⟩ = w.frozen? ⟨x.b, o, none⟩) : ItOk W0 lo w' x := by
  obtain ⟨h1, h2, h3, h4, h5, A, c, h6, h7⟩ := h
  exact ⟨h1, by omega, h3, h4, fun o => (hf o).trans (h5 o), A, c, fun j hj => (hc j hj).trans (h6 j hj), h7⟩
theorem ItOk.block {W0 w w' : World} {lo : Nat} {x : It} (h : ItOk W0 lo w x) (hs : w.heap.size ≤ w'.heap.size) (hb : w'.heap[x.b]? = w.heap[x.b]?) : ItOk W0 lo w' x :=
  h.keep hs (fun j _ => World.cell?_of_block (a := ⟨x.b, x.o + j, none⟩) hb) (fun o => by unfold World.frozen?; rw [hb])
theorem ItOk.below {W0 w w' : World} {lo : Nat} {x : It} (h : ItOk W0 lo w x) (hb : Below w.heap.size w w') : ItOk W0 lo w' x := h.block hb.size (hb.block x.b h.2.1)
theorem heap_setCell_other (w : World) (a : Addr) (v : Value) (g : Nat) (h : g ≠ a.block) : (w.setCell a v).heap[g]? = w.heap[g]? := by
  simp [World.setCell, Array.getElem?_modify, Ne.symm h]
theorem size_setCell (w : World) (a : Addr) (v : Value) : (w.setCell a v).heap.size = w.heap.size := by simp [World.setCell]
/-- a list of another node is laid: nothing becomes of this one. -/
theorem ItOk.other {W0 w : World} {lo : Nat} {x : It} (h : ItOk W0 lo w x) {b o : Nat} (ho : o % 22 = 0) (hn : x.ad ≠ (b, o)) (v : Value) : ItOk W0 lo (w.setCell ⟨b, o + 21, none⟩ v) x := by
  refine h.keep (by rw [size_setCell]; exact Nat.le_refl _) (fun j hj => World.cell?_setCell_other _ _ _ _ (fun e => hn ?_)) (fun o' => World.frozen?_setCell _ _ _ _)
  simp only [Addr.mk.injEq, and_true] at e
  have h3 := h.2.2.1
  simp only [It.ad, Prod.mk.injEq]
  omega
/-- the last cell of a node is laid anew. -/
theorem NodeCells.last {w : World} {b o : Nat} {d : ND} {A A' : Option Addr} {n c n' c' : Nat} (h : NodeCells w b o d A n c) : NodeCells (w.setCell ⟨b, o + 21, none⟩ (.slice A' n' c')) b o d A' n' c' := by
  intro j hj
  by_cases hj2 : j = 21
  · subst hj2
    rw [World.cell?_setCell_same (u := .slice A n c) _ _ _ (h 21 (by decide))]
    rfl
  · rw [World.cell?_setCell_other _ _ _ _ (fun e => by simp only [Addr.mk.injEq, and_true] at e; omega), h j hj]
    have e : ∀ (A : Option Addr) (n c : Nat), (nodeA d A n c)[j]? = d.head[j]? := fun A n c => by
      have h1 : (nodeA d A n c)[j]? = (d.head ++ [Value.slice A n c])[j]? := by simp [nodeA]
      have hl : d.head.length = 21 := rfl
      rw [h1, List.getElem?_append_left (by rw [hl]; omega)]
    rw [e, e]
/-- an empty list is forgotten. -/
theorem ItOk.nil {W0 w : World} {lo : Nat} {x : It} (h : ItOk W0 lo w x) (hp : x.p = []) (hk : x.ks = []) : ItOk W0 lo (w.setCell ⟨x.b, x.o + 21, none⟩ (.slice none 0 0)) x := by
  obtain ⟨h1, h2, h3, h4, h5, A, c, h6, h7, h8, h9, h10⟩ := h
  refine ⟨h1, by rw [size_setCell]; exact h2, h3, h4, fun o => (World.frozen?_setCell _ _ _ _).trans (h5 o), none, 0, ?_, by rw [hp, hk]; exact Nat.le_refl _, by omega, .inl hp, .inl hk⟩
  rw [hp, hk]
  exact h6.last
/-- the nodes of a new list. -/
def kidsOf (b : Nat) : Nat → List Tr → List PT
  | _, [] => []
  | o, t :: ts => .mk b o t.d t.l [] :: kidsOf b (o + 22) ts
theorem kidsOf_len (b : Nat) : ∀ (o : Nat) (l : List Tr), (kidsOf b o l).length = l.length
  | _, [] => rfl
  | o, t :: ts => by simp [kidsOf, kidsOf_len b (o + 22) ts]
theorem kidsOf_tr (b : Nat) : ∀ (o : Nat) (l : List Tr), (kidsOf b o l).map PT.tr = l
  | _, [] => rfl
  | o, t :: ts => by simp only [kidsOf, List.map_cons, kidsOf_tr b (o + 22) ts, PT.tr_mk, List.map_nil, List.append_nil, ← Tr.eta]
theorem kidsOf_ad (b : Nat) : ∀ (o : Nat) (l : List Tr) (i : Nat) (h : i < ((kidsOf b o l).map PT.ad).length), ((kidsOf b o l).map PT.ad)[i] = (b, o + i * 22)
  | _, [], i, h => by simp [kidsOf] at h
  | o, t :: ts, 0, _ => by simp [kidsOf, PT.ad]
  | o, t :: ts, i + 1, h => by
    simp only [kidsOf, List.map_cons, List.getElem_cons_succ]
    rw [kidsOf_ad b (o + 22) ts i (by simpa [kidsOf] using h)]
    congr 1; omega
/-- the nodes of a new list, flat. -/
def itsOf (b : Nat) : Nat → List Tr → List It
  | _, [] => []
  | o, t :: ts => ⟨b, o, t.d, t.l, []⟩ :: itsOf b (o + 22) ts
theorem kidsOf_its (b : Nat) : ∀ (o : Nat) (l : List Tr), (kidsOf b o l).flatMap PT.its = itsOf b o l
  | _, [] => rfl
  | o, t :: ts => by simp only [kidsOf, List.flatMap_cons, kidsOf_its b (o + 22) ts, PT.its_mk, List.map_nil, List.flatMap_nil, itsOf, List.cons_append, List.nil_append]
theorem itsOf_len (b : Nat) : ∀ (o : Nat) (l : List Tr), (itsOf b o l).length = l.length
  | _, [] => rfl
  | o, t :: ts => by simp [itsOf, itsOf_len b (o + 22) ts]
theorem itsOf_get (b : Nat) : ∀ (o : Nat) (l : List Tr) (i : Nat) (h : i < l.length) (h' : i < (itsOf b o l).length), (itsOf b o l)[i] = ⟨b, o + i * 22, l[i].d, l[i].l, []⟩
  | _, [], i, h, _ => by simp at h
  | o, t :: ts, 0, _, _ => by simp [itsOf]
  | o, t :: ts, i + 1, h, h' => by
    simp only [itsOf, List.getElem_cons_succ]
    rw [itsOf_get b (o + 22) ts i (by simpa using h) (by simpa [itsOf] using h')]
    congr 1; omega
theorem itsOf_mem (b o : Nat) (l : List Tr) : ∀ x ∈ itsOf b o l, ∃ i, ∃ h : i < l.length, x = ⟨b, o + i * 22, l[i].d, l[i].l, []⟩ := by
  intro x hx
  obtain ⟨i, hi, rfl⟩ := List.mem_iff_getElem.1 hx
  have hl : i < l.length := by rw [itsOf_len] at hi; exact hi
  exact ⟨i, hl, itsOf_get b o l i hl hi⟩
theorem kidsOf_adrs (b o : Nat) (l : List Tr) : (kidsOf b o l).flatMap PT.adrs = (itsOf b o l).map It.ad := by
  rw [← kidsOf_its, List.map_flatMap]; rfl
theorem itsOf_nodup (b : Nat) : ∀ (o : Nat) (l : List Tr), ((itsOf b o l).map It.ad).Nodup
  | _, [] => by simp [itsOf]
  | o, t :: ts => by
    simp only [itsOf, List.map_cons]
    refine List.nodup_cons.2 ⟨fun h => ?_, itsOf_nodup b (o + 22) ts⟩
    obtain ⟨x, hx, he⟩ := List.mem_map.1 h
    obtain ⟨i, hi, rfl⟩ := itsOf_mem b (o + 22) ts x hx
    simp only [It.ad, Prod.mk.injEq, true_and] at he
    omega
/-- the cells of a new list. -/
theorem itsOf_ok {W0 w1 w : World} {lo b : Nat} (hlo : lo ≤ b) (hb : b < w.heap.size) (hf : ∀ o, w.frozen? ⟨b, o, none⟩ = false) (hk : Below lo W0 w1) : ∀ {l : List Tr} {xs : List Value} {o : Nat}, NRow w1 lo l xs → o % 22 = 0 → (∀ j u, xs[j]? = some u → w.cell? ⟨b, o + j, none⟩ = some u) → ∀ x ∈ itsOf b o l, ItOk W0 lo w x
  | [], xs, o, _, _, _, x, hx => by simp [itsOf] at hx
  | t :: ts, xs, o, h, ho, hc, x, hx => by
    simp only [NRow] at h
    obtain ⟨cs, ys, rfl, h1, h2⟩ := h
    have hl := h1.len
    rcases List.mem_cons.1 hx with rfl | hx
    · obtain ⟨A, c, rfl, hd, hs⟩ := h1
      refine ⟨hlo, hb, ho, hd, hf, A, c, fun j hj => ?_, by simpa using hs.1, hs.2.1, ?_, .inl rfl⟩
      · obtain ⟨u, hu⟩ : ∃ u, (t.d.head ++ [Value.slice A t.l.length c])[j]? = some u := ⟨_, List.getElem?_eq_getElem (by rw [hl]; exact hj)⟩
        have h1 : (nodeA t.d A (t.l.length + ([] : List (Nat × Nat)).length) c)[j]? = (t.d.head ++ [Value.slice A t.l.length c])[j]? := by simp [nodeA]
        refine Eq.trans ?_ h1.symm
        rw [hu]
        exact hc j u (by rw [List.getElem?_append_left (by rw [hl]; exact hj)]; exact hu)
      · rcases hs.2.2 with h | ⟨b', o', hA, hks⟩
        · exact .inl h
        · refine .inr ⟨b', o', hA, KidsAt.of (fun i hi => NodeAt.keep (fun p hp => (hk.cell hp).symm) _ _ _ (hks.get i hi))⟩
    · refine itsOf_ok hlo hb hf hk h2 (by omega) (fun j u hu => ?_) x hx
      have := hc (22 + j) u (by rw [List.getElem?_append_right (by rw [hl]; omega), hl]; simpa using hu)
      rwa [show o + 22 + j = o + (22 + j) by omega]
end Go.Proofs.YtbiacjkkgddclaaGreat
namespace Go.Proofs.YtbiacjkkgddclaaGreat
open Go.RowKit Go.Shelf

/-- a tree is being copied; its root lies at the head of block lo, what is new from there on. -/
structure Cop (W0 : World) (lo : Nat) (t : Tr) (w : World) (a : PT) : Prop where
  tr : a.tr = t
  ad : a.ad = (lo, 0)
  nodup : a.adrs.Nodup
  ok : ∀ x ∈ a.its, ItOk W0 lo w x
theorem Cop.block {W0 w w' : World} {lo : Nat} {t : Tr} {a : PT} (h : Cop W0 lo t w a) (hs : w.heap.size ≤ w'.heap.size) (hb : ∀ x ∈ a.its, w'.heap[x.b]? = w.heap[x.b]?) : Cop W0 lo t w' a :=
  ⟨h.tr, h.ad, h.nodup, fun x hx => (h.ok x hx).block hs (hb x hx)⟩
theorem ad_inj {a : PT} (h : a.adrs.Nodup) {x y : It} (hx : x ∈ a.its) (hy : y ∈ a.its) (e : x.ad = y.ad) : x = y := by
  have key : ∀ l : List It, (l.map It.ad).Nodup → x ∈ l → y ∈ l → x = y := by
    intro l
    induction l with
    | nil => intro _ h; cases h
    | cons z l ih =>
      intro hn hx hy
      rw [List.map_cons, List.nodup_cons] at hn
      rcases List.mem_cons.1 hx with g | g <;> rcases List.mem_cons.1 hy with g' | g'
      · rw [g, g']
      · exact absurd (List.mem_map.2 ⟨y, g', by rw [← e, g]⟩) hn.1
      · exact absurd (List.mem_map.2 ⟨x, g, by rw [e, g']⟩) hn.1
      · exact ih hn.2 g g'
  exact key _ h hx hy
/-- what a node's new list makes of the copy. -/
structure Stepped (W0 : World) (lo : Nat) (t : Tr) (w3 : World) (a : PT) (x : It) (kb : Nat) (a' : PT) : Prop where
  cop : Cop W0 lo t w3 a'
  pend : ∀ i ∈ a'.its, i.p ≠ [] → i ∈ itsOf kb 0 x.p ∨ (i ∈ a.its ∧ i.ad ≠ x.ad)
  stay : ∀ i ∈ a.its, i.ad ≠ x.ad → i ∈ a'.its
  kids : ∀ i ∈ itsOf kb 0 x.p, i ∈ a'.its
  blocks : ∀ i ∈ a'.its, i.b = kb ∨ ∃ j ∈ a.its, i.b = j.b
theorem pt_step {W0 wr w2 : World} {lo : Nat} {t : Tr} {a : PT} (hc : Cop W0 lo t wr a) (hW : Below lo W0 wr) {x : It} (hx : x ∈ a.its) (hk : x.ks = []) {A' : Option Addr} {cap kb : Nat} {xs : List Value} (hlo : lo ≤ wr.heap.size) (hb : Below wr.heap.size wr w2) (hrow : NRow wr lo x.p xs) (hcap : x.p.length ≤ cap) (hcm : cap ≤ 9223372036854775807) (hkb : wr.heap.size ≤ kb)
    (hA : (x.p = [] ∧ xs = []) ∨ (A' = some ⟨kb, 0, none⟩ ∧ kb < w2.heap.size ∧ (∀ o, w2.frozen? ⟨kb, o, none⟩ = false) ∧ ∀ j u, xs[j]? = some u → w2.cell? ⟨kb, j, none⟩ = some u)) :
    Stepped W0 lo t (w2.setCell ⟨x.b, x.o + 21, none⟩ (.slice A' x.p.length cap)) a x kb (a.sub x.b x.o (kidsOf kb 0 x.p)) := by
  obtain ⟨b, o, d, p, ks⟩ := x
  simp only at hk hrow hcap hA hx ⊢
  subst hk
  have hxo := hc.ok _ hx
  have hone : ∀ j ∈ a.its, j.ad = (b, o) → j = ⟨b, o, d, p, []⟩ := fun j hj e => ad_inj hc.nodup hj hx e
  have hmem : (b, o) ∈ a.adrs := List.mem_map.2 ⟨_, hx, rfl⟩
  have hnew : ∀ q ∈ (kidsOf kb 0 p).flatMap PT.adrs, q ∉ a.adrs := by
    intro q hq hq2
    rw [kidsOf_adrs] at hq
    obtain ⟨y, hy, rfl⟩ := List.mem_map.1 hq
    obtain ⟨i, hi, rfl⟩ := itsOf_mem _ _ _ y hy
    obtain ⟨z, hz, he⟩ := List.mem_map.1 hq2
    have := (hc.ok z hz).2.1
    simp only [It.ad, Prod.mk.injEq] at he
    omega
  have hbne : b < wr.heap.size := hxo.2.1
  have hkids : ∀ y ∈ itsOf kb 0 p, ItOk W0 lo (w2.setCell ⟨b, o + 21, none⟩ (.slice A' p.length cap)) y := by
    rcases hA with ⟨rfl, -⟩ | ⟨-, h1, h2, h3⟩
    · intro y hy; simp [itsOf] at hy
    · refine itsOf_ok (w1 := wr) (by omega) (by rw [size_setCell]; exact h1) (fun o' => (World.frozen?_setCell _ _ _ _).trans (h2 o')) hW hrow rfl (fun j u hu => ?_)
      rw [World.cell?_setCell_other _ _ _ _ (fun e => by simp only [Addr.mk.injEq] at e; omega), Nat.zero_add]
      exact h3 j u hu
  refine ⟨⟨?_, ?_, ?_, ?_⟩, ?_, ?_, ?_, ?_⟩
  · rw [PT.tr_sub, hc.tr]
    intro j hj e
    rw [hone j hj e, kidsOf_tr]
    exact ⟨rfl, rfl⟩
  · rw [PT.ad_sub]; exact hc.ad
  · exact PT.nodup_sub _ _ _ (by rw [kidsOf_adrs]; exact itsOf_nodup _ _ _) _ hc.nodup hnew
  · intro y hy
    rcases PT.its_sub _ _ _ _ y hy with ⟨h1, h2⟩ | h | ⟨h1, h2, h3, j, h4, h5, h6⟩
    · exact ((hc.ok y h1).below hb).other hxo.2.2.1 h2 _
    · rw [kidsOf_its] at h
      exact hkids y h
    · obtain ⟨b', o', d', p', ks'⟩ := y
      simp only [It.ad, Prod.mk.injEq] at h1
      obtain ⟨rfl, rfl⟩ := h1
      simp only at h2 h3 h6
      subst h2 h3
      rw [hone j h4 h5] at h6
      simp only at h6
      subst h6
      obtain ⟨g1, g2, g3, g4, g5, A, c, g6, g7, g8, g9, g10⟩ := hxo.below hb
      have hlen : ((kidsOf kb 0 p).map PT.ad).length = p.length := by rw [List.length_map, kidsOf_len]
      refine ⟨g1, by rw [size_setCell]; exact g2, g3, g4, fun o' => (World.frozen?_setCell _ _ _ _).trans (g5 o'), A', cap, ?_, ?_, hcm, .inl rfl, ?_⟩
      · simp only [List.length_nil, Nat.zero_add, hlen]
        exact g6.last
      · simp only [List.length_nil, Nat.zero_add, hlen]; exact hcap
      · rcases hA with ⟨rfl, -⟩ | ⟨rfl, -⟩
        · exact .inl rfl
        · refine .inr ⟨kb, rfl, fun i hi => ?_⟩
          rw [kidsOf_ad kb 0 p i hi, Nat.zero_add]
  · intro i hi hp
    rcases PT.its_sub _ _ _ _ i hi with ⟨h1, h2⟩ | h | ⟨-, h2, -⟩
    · exact .inr ⟨h1, h2⟩
    · rw [kidsOf_its] at h; exact .inl h
    · exact absurd h2 hp
  · exact fun i hi hn => PT.mem_sub _ _ _ _ (fun j hj e => by rw [hone j hj e]) i hi hn
  · exact fun i hi => PT.new_sub _ _ _ _ hmem i (by rw [kidsOf_its]; exact hi)
  · intro i hi
    rcases PT.its_sub _ _ _ _ i hi with ⟨h1, h2⟩ | h | ⟨h1, h2, h3, j, h4, h5, h6⟩
    · exact .inr ⟨i, h1, rfl⟩
    · rw [kidsOf_its] at h
      obtain ⟨k, hk, rfl⟩ := itsOf_mem _ _ _ i h
      exact .inl rfl
    · refine .inr ⟨j, h4, ?_⟩
      have := h1.trans h5.symm
      simp only [It.ad, Prod.mk.injEq] at this
      exact this.1
theorem Cop.nil {W0 w : World} {lo : Nat} {t : Tr} {a : PT} (h : Cop W0 lo t w a) {x : It} (hx : x ∈ a.its) (hp : x.p = []) (hk : x.ks = []) : Cop W0 lo t (w.setCell ⟨x.b, x.o + 21, none⟩ (.slice none 0 0)) a := by
  refine ⟨h.tr, h.ad, h.nodup, fun y hy => ?_⟩
  by_cases e : y.ad = x.ad
  · rw [ad_inj h.nodup hy hx e]; exact (h.ok x hx).nil hp hk
  · exact (h.ok y hy).other (h.ok x hx).2.2.1 e _
/-- nodes that wait: how much there is to do. -/
def iwait (l : List It) : Nat := (l.map fun x => Tr.sizes x.p + 1).sum
def iptr (x : It) : Value := .pointer (some ⟨x.b, x.o, none⟩)
def ipend (l : List It) : List It := l.filter fun x => !x.p.isEmpty
theorem iwait_append (l m : List It) : iwait (l ++ m) = iwait l + iwait m := by simp [iwait]
theorem iwait_len (l : List It) : l.length ≤ iwait l := by
  induction l with
  | nil => simp [iwait]
  | cons x l ih =>
    have h2 : iwait (x :: l) = (Tr.sizes x.p + 1) + iwait l := by simp [iwait]
    rw [h2, List.length_cons]; omega
theorem iwait_kids (b : Nat) : ∀ (o : Nat) (l : List Tr), iwait (itsOf b o l) = Tr.sizes l
  | _, [] => by simp [itsOf, iwait, Tr.sizes]
  | o, t :: ts => by
    have h : iwait (itsOf b o (t :: ts)) = (Tr.sizes t.l + 1) + iwait (itsOf b (o + 22) ts) := by simp [itsOf, iwait]
    rw [h, iwait_kids b (o + 22) ts]
    have e : t.size = Tr.sizes t.l + 1 := by cases t; simp [Tr.size, Tr.l]
    simp only [Tr.sizes]; omega
theorem iwait_filter (q : It → Bool) (l : List It) : iwait (l.filter q) ≤ iwait l := by
  induction l with
  | nil => simp [iwait]
  | cons x l ih =>
    have h2 : iwait (x :: l) = (Tr.sizes x.p + 1) + iwait l := by simp [iwait]
    rw [List.filter_cons]
    split
    · have h3 : iwait (x :: l.filter q) = (Tr.sizes x.p + 1) + iwait (l.filter q) := by simp [iwait]
      omega
    · omega
theorem iwait_pend (l : List It) : iwait (ipend l) ≤ iwait l := iwait_filter _ l
theorem ipend_take {l : List It} {k : Nat} (hk : k < l.length) : ipend (l.take (k + 1)) = ipend (l.take k) ++ (if l[k].p = [] then [] else [l[k]]) := by
  unfold ipend
  rw [List.take_succ_eq_append_getElem hk, List.filter_append]
  congr 1
  by_cases h : l[k].p = []
  · simp [h]
  · simp [h]
end Go.Proofs.YtbiacjkkgddclaaGreat
