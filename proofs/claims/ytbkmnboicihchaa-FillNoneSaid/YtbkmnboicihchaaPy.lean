/- Trees that are being copied: the lists of some nodes are still the old ones. No program in sight. -/
import Derived.Test.YtbkmnboicihchaaAt
namespace Go.Proofs.Ytbkmnboicihchaa
set_option linter.unusedSimpArgs false
set_option linter.unusedVariables false
open Go.RowKit

/-- a tree in new memory; p: the list of a node whose list is still the old one. -/
inductive PT where
  | mk (b o : Nat) (d : ND) (p : List Tr) (l : List PT)
/-- a node of it, with where those below it lie. -/
structure It where
  b : Nat
  o : Nat
  d : ND
  p : List Tr
  ks : List (Nat × Nat)
def It.ad (x : It) : Nat × Nat := (x.b, x.o)
def PT.ad : PT → Nat × Nat | .mk b o _ _ _ => (b, o)
theorem PT.ind {P : PT → Prop} (h : ∀ b o d p l, (∀ t ∈ l, P t) → P (.mk b o d p l)) (t : PT) : P t :=
  PT.rec (motive_1 := P) (motive_2 := fun l => ∀ t ∈ l, P t) (fun b o d p l ih => h b o d p l ih) (fun t ht => by cases ht)
    (fun t ts iht ihts x hx => by
      rcases List.mem_cons.1 hx with rfl | hx
      · exact iht
      · exact ihts x hx) t
mutual
def PT.tr : PT → Tr
  | .mk _ _ d p l => .mk d (p ++ PT.trs l)
def PT.trs : List PT → List Tr
  | [] => []
  | t :: ts => t.tr :: PT.trs ts
end
mutual
def PT.its : PT → List It
  | .mk b o d p l => ⟨b, o, d, p, l.map PT.ad⟩ :: PT.itss l
def PT.itss : List PT → List It
  | [] => []
  | t :: ts => t.its ++ PT.itss ts
end
mutual
/-- the node at an address gets its new list. -/
def PT.sub (b o : Nat) (k : List PT) : PT → PT
  | .mk b' o' d p l => if b' = b ∧ o' = o then .mk b' o' d [] k else .mk b' o' d p (PT.subs b o k l)
def PT.subs (b o : Nat) (k : List PT) : List PT → List PT
  | [] => []
  | t :: ts => PT.sub b o k t :: PT.subs b o k ts
end
theorem PT.trs_map : ∀ l : List PT, PT.trs l = l.map PT.tr
  | [] => by simp [PT.trs]
  | t :: ts => by simp [PT.trs, PT.trs_map ts]
theorem PT.itss_flat : ∀ l : List PT, PT.itss l = l.flatMap PT.its
  | [] => by simp [PT.itss]
  | t :: ts => by simp [PT.itss, PT.itss_flat ts]
theorem PT.subs_map (b o : Nat) (k : List PT) : ∀ l : List PT, PT.subs b o k l = l.map (PT.sub b o k)
  | [] => by simp [PT.subs]
  | t :: ts => by simp [PT.subs, PT.subs_map b o k ts]
theorem PT.tr_mk (b o : Nat) (d : ND) (p : List Tr) (l : List PT) : (PT.mk b o d p l).tr = .mk d (p ++ l.map PT.tr) := by simp [PT.tr, PT.trs_map]
theorem PT.its_mk (b o : Nat) (d : ND) (p : List Tr) (l : List PT) : (PT.mk b o d p l).its = ⟨b, o, d, p, l.map PT.ad⟩ :: l.flatMap PT.its := by simp [PT.its, PT.itss_flat]
theorem PT.sub_mk (b o : Nat) (k : List PT) (b' o' : Nat) (d : ND) (p : List Tr) (l : List PT) : (PT.mk b' o' d p l).sub b o k = if b' = b ∧ o' = o then .mk b' o' d [] k else .mk b' o' d p (l.map (PT.sub b o k)) := by
  rw [PT.sub, PT.subs_map]
theorem PT.ad_sub (b o : Nat) (k : List PT) (x : PT) : (x.sub b o k).ad = x.ad := by
  obtain ⟨b', o', d, p, l⟩ := x
  rw [PT.sub_mk]
  split <;> rfl
/-- the addresses of all nodes. -/
def PT.adrs (x : PT) : List (Nat × Nat) := x.its.map It.ad
theorem PT.adrs_mk (b o : Nat) (d : ND) (p : List Tr) (l : List PT) : (PT.mk b o d p l).adrs = (b, o) :: l.flatMap PT.adrs := by
  simp only [PT.adrs, PT.its_mk, List.map_cons, List.map_flatMap]
  rfl
theorem PT.sub_none (b o : Nat) (k : List PT) (x : PT) : (b, o) ∉ x.adrs → x.sub b o k = x := by
  induction x using PT.ind with
  | _ b' o' d p l ih =>
    intro h
    rw [PT.adrs_mk] at h
    simp only [List.mem_cons, List.mem_flatMap, not_or, not_exists, not_and] at h
    rw [PT.sub_mk, if_neg (fun e => h.1 (by rw [e.1, e.2]))]
    congr 1
    conv => rhs; rw [← List.map_id l]
    exact List.map_congr_left fun t ht => ih t ht (h.2 t ht)
/-- the nodes behind a replacing. -/
theorem PT.its_sub (b o : Nat) (k : List PT) (x : PT) : ∀ i ∈ (x.sub b o k).its, (i ∈ x.its ∧ i.ad ≠ (b, o)) ∨ i ∈ k.flatMap PT.its ∨ (i.ad = (b, o) ∧ i.p = [] ∧ i.ks = k.map PT.ad ∧ ∃ j ∈ x.its, j.ad = (b, o) ∧ i.d = j.d) := by
  induction x using PT.ind with
  | _ b' o' d p l ih =>
    intro i hi
    rw [PT.sub_mk] at hi
    by_cases e : b' = b ∧ o' = o
    · rw [if_pos e, PT.its_mk] at hi
      rcases List.mem_cons.1 hi with rfl | hi
      · exact .inr (.inr ⟨by simp [It.ad, e.1, e.2], rfl, rfl, ⟨b', o', d, p, l.map PT.ad⟩, by rw [PT.its_mk]; simp, by simp [It.ad, e.1, e.2], rfl⟩)
      · exact .inr (.inl hi)
    · rw [if_neg e, PT.its_mk] at hi
      rcases List.mem_cons.1 hi with rfl | hi
      · refine .inl ⟨?_, fun h => e (by simpa [It.ad] using h)⟩
        rw [PT.its_mk, List.map_map]
        have : (l.map (PT.ad ∘ PT.sub b o k)) = l.map PT.ad := List.map_congr_left fun t _ => PT.ad_sub b o k t
        rw [this]; simp
      · rw [List.flatMap_map] at hi
        obtain ⟨t, ht, hit⟩ := List.mem_flatMap.1 hi
        rcases ih t ht i hit with ⟨h1, h2⟩ | h | ⟨h1, h2, h3, j, h4, h5⟩
        · exact .inl ⟨by rw [PT.its_mk]; exact List.mem_cons_of_mem _ (List.mem_flatMap.2 ⟨t, ht, h1⟩), h2⟩
        · exact .inr (.inl h)
        · exact .inr (.inr ⟨h1, h2, h3, j, by rw [PT.its_mk]; exact List.mem_cons_of_mem _ (List.mem_flatMap.2 ⟨t, ht, h4⟩), h5⟩)
/-- what stays. -/
theorem PT.mem_sub (b o : Nat) (k : List PT) (x : PT) : (∀ j ∈ x.its, j.ad = (b, o) → j.ks = []) → ∀ i ∈ x.its, i.ad ≠ (b, o) → i ∈ (x.sub b o k).its := by
  induction x using PT.ind with
  | _ b' o' d p l ih =>
    intro hl i hi hn
    rw [PT.sub_mk]
    by_cases e : b' = b ∧ o' = o
    · have h0 := hl ⟨b', o', d, p, l.map PT.ad⟩ (by rw [PT.its_mk]; simp) (by simp [It.ad, e.1, e.2])
      have h1 : l = [] := by simpa using h0
      subst h1
      rw [PT.its_mk] at hi
      simp only [List.map_nil, List.flatMap_nil, List.mem_singleton] at hi
      subst hi
      exact absurd (by simp [It.ad, e.1, e.2]) hn
    · rw [if_neg e, PT.its_mk]
      rw [PT.its_mk] at hi
      rcases List.mem_cons.1 hi with rfl | hi
      · have : ((l.map (PT.sub b o k)).map PT.ad) = l.map PT.ad := by rw [List.map_map]; exact List.map_congr_left fun t _ => PT.ad_sub b o k t
        rw [this]; simp
      · obtain ⟨t, ht, hit⟩ := List.mem_flatMap.1 hi
        refine List.mem_cons_of_mem _ (List.mem_flatMap.2 ⟨t.sub b o k, List.mem_map.2 ⟨t, ht, rfl⟩, ih t ht (fun j hj => hl j ?_) i hit hn⟩)
        rw [PT.its_mk]; exact List.mem_cons_of_mem _ (List.mem_flatMap.2 ⟨t, ht, hj⟩)
/-- what comes. -/
theorem PT.new_sub (b o : Nat) (k : List PT) (x : PT) : (b, o) ∈ x.adrs → ∀ i ∈ k.flatMap PT.its, i ∈ (x.sub b o k).its := by
  induction x using PT.ind with
  | _ b' o' d p l ih =>
    intro h i hi
    rw [PT.sub_mk]
    by_cases e : b' = b ∧ o' = o
    · rw [if_pos e, PT.its_mk]; exact List.mem_cons_of_mem _ hi
    · rw [if_neg e, PT.its_mk]
      rw [PT.adrs_mk] at h
      rcases List.mem_cons.1 h with h | h
      · simp only [Prod.mk.injEq] at h; exact absurd ⟨h.1.symm, h.2.symm⟩ e
      · obtain ⟨t, ht, hit⟩ := List.mem_flatMap.1 h
        exact List.mem_cons_of_mem _ (List.mem_flatMap.2 ⟨t.sub b o k, List.mem_map.2 ⟨t, ht, rfl⟩, ih t ht hit i hi⟩)
theorem nodup_part {A B : Type} {f : A → List B} : ∀ {l : List A} {t : A}, (l.flatMap f).Nodup → t ∈ l → (f t).Nodup
  | a :: l, t, h, ht => by
    rw [List.flatMap_cons, List.nodup_append] at h
    rcases List.mem_cons.1 ht with rfl | ht
    · exact h.1
    · exact nodup_part h.2.1 ht
/-- the node itself. -/
theorem PT.self_sub (b o : Nat) (k : List PT) (x : PT) : ∀ j ∈ x.its, j.ad = (b, o) → x.adrs.Nodup → (⟨b, o, j.d, [], k.map PT.ad⟩ : It) ∈ (x.sub b o k).its := by
  induction x using PT.ind with
  | _ b' o' d p l ih =>
    intro j hj hja hnd
    rw [PT.sub_mk]
    rw [PT.its_mk] at hj
    rw [PT.adrs_mk] at hnd
    by_cases e : b' = b ∧ o' = o
    · rw [if_pos e, PT.its_mk]
      obtain ⟨rfl, rfl⟩ := e
      rcases List.mem_cons.1 hj with rfl | hj
      · simp
      · exfalso
        obtain ⟨t, ht, hit⟩ := List.mem_flatMap.1 hj
        exact (List.nodup_cons.1 hnd).1 (List.mem_flatMap.2 ⟨t, ht, List.mem_map.2 ⟨j, hit, hja⟩⟩)
    · rw [if_neg e, PT.its_mk]
      rcases List.mem_cons.1 hj with rfl | hj
      · exact absurd (by simpa [It.ad] using hja) e
      · obtain ⟨t, ht, hit⟩ := List.mem_flatMap.1 hj
        have h2 := (List.nodup_cons.1 hnd).2
        have h3 : t.adrs.Nodup := nodup_part h2 ht
        exact List.mem_cons_of_mem _ (List.mem_flatMap.2 ⟨t.sub b o k, List.mem_map.2 ⟨t, ht, rfl⟩, ih t ht j hit hja h3⟩)
theorem PT.tr_sub (b o : Nat) (k : List PT) (x : PT) : (∀ j ∈ x.its, j.ad = (b, o) → j.p = k.map PT.tr ∧ j.ks = []) → (x.sub b o k).tr = x.tr := by
  induction x using PT.ind with
  | _ b' o' d p l ih =>
    intro h
    rw [PT.sub_mk]
    by_cases e : b' = b ∧ o' = o
    · obtain ⟨h1, h2⟩ := h ⟨b', o', d, p, l.map PT.ad⟩ (by rw [PT.its_mk]; simp) (by simp [It.ad, e.1, e.2])
      have h3 : l = [] := by simpa using h2
      subst h3
      rw [if_pos e, PT.tr_mk, PT.tr_mk]
      simp only at h1
      simp [h1]
    · rw [if_neg e, PT.tr_mk, PT.tr_mk, List.map_map]
      congr 2
      refine List.map_congr_left fun t ht => ih t ht (fun j hj => h j ?_)
      rw [PT.its_mk]; exact List.mem_cons_of_mem _ (List.mem_flatMap.2 ⟨t, ht, hj⟩)
theorem PT.adrs_sub (b o : Nat) (k : List PT) (x : PT) : ∀ q ∈ (x.sub b o k).adrs, q ∈ x.adrs ∨ q ∈ k.flatMap PT.adrs := by
  intro q hq
  obtain ⟨i, hi, rfl⟩ := List.mem_map.1 hq
  rcases PT.its_sub b o k x i hi with ⟨h1, _⟩ | h | ⟨h1, _, _, j, h4, h5, _⟩
  · exact .inl (List.mem_map.2 ⟨i, h1, rfl⟩)
  · obtain ⟨t, ht, hit⟩ := List.mem_flatMap.1 h
    exact .inr (List.mem_flatMap.2 ⟨t, ht, List.mem_map.2 ⟨i, hit, rfl⟩⟩)
  · exact .inl (List.mem_map.2 ⟨j, h4, h5.trans h1.symm⟩)
theorem PT.nodup_sub (b o : Nat) (k : List PT) (hk : (k.flatMap PT.adrs).Nodup) (x : PT) : x.adrs.Nodup → (∀ q ∈ k.flatMap PT.adrs, q ∉ x.adrs) → (x.sub b o k).adrs.Nodup := by
  induction x using PT.ind with
  | _ b' o' d p l ih =>
    intro hx hd
    rw [PT.adrs_mk] at hx
    obtain ⟨h1, h2⟩ := List.nodup_cons.1 hx
    rw [PT.sub_mk]
    by_cases e : b' = b ∧ o' = o
    · rw [if_pos e, PT.adrs_mk]
      exact List.nodup_cons.2 ⟨fun h => hd _ h (by rw [PT.adrs_mk]; simp), hk⟩
    · rw [if_neg e, PT.adrs_mk]
      have hsub : ∀ t ∈ l, ∀ q ∈ t.adrs, q ∈ (PT.mk b' o' d p l).adrs := fun t ht q hq => by rw [PT.adrs_mk]; exact List.mem_cons_of_mem _ (List.mem_flatMap.2 ⟨t, ht, hq⟩)
      refine List.nodup_cons.2 ⟨fun h => ?_, ?_⟩
      · rw [List.flatMap_map] at h
        obtain ⟨t, ht, hit⟩ := List.mem_flatMap.1 h
        rcases PT.adrs_sub b o k t _ hit with h | h
        · exact h1 (List.mem_flatMap.2 ⟨t, ht, h⟩)
        · exact hd _ h (by rw [PT.adrs_mk]; simp)
      · have key : ∀ m : List PT, (∀ t ∈ m, t ∈ l) → (m.flatMap PT.adrs).Nodup → (m.flatMap fun t => (t.sub b o k).adrs).Nodup := by
          intro m
          induction m with
          | nil => intro _ _; simp
          | cons a m ihm =>
            intro hm hn
            rw [List.flatMap_cons, List.nodup_append] at hn
            obtain ⟨n1, n2, n3⟩ := hn
            have ha := hm a (by simp)
            rw [List.flatMap_cons, List.nodup_append]
            refine ⟨ih a ha n1 (fun q hq hq2 => hd q hq (hsub a ha q hq2)), ihm (fun t ht => hm t (by simp [ht])) n2, fun q hq r hr hqr => ?_⟩
            subst hqr
            obtain ⟨t, ht, hit⟩ := List.mem_flatMap.1 hr
            have htl := hm t (by simp [ht])
            rcases PT.adrs_sub b o k a q hq with g1 | g1 <;> rcases PT.adrs_sub b o k t q hit with g2 | g2
            · exact n3 q g1 q (List.mem_flatMap.2 ⟨t, ht, g2⟩) rfl
            · exact hd q g2 (hsub a ha q g1)
            · exact hd q g1 (hsub t htl q g2)
            · by_cases ca : (b, o) ∈ a.adrs
              · have ct : (b, o) ∉ t.adrs := fun h => n3 _ ca _ (List.mem_flatMap.2 ⟨t, ht, h⟩) rfl
                rw [PT.sub_none b o k t ct] at hit
                exact hd q g1 (hsub t htl q hit)
              · rw [PT.sub_none b o k a ca] at hq
                exact hd q g2 (hsub a ha q hq)
        have := key l (fun _ h => h) h2
        rwa [List.flatMap_map]
mutual
/-- a tree whose lists are all new, with its addresses. -/
def PT.at_ : PT → AT
  | .mk b o d _ l => .mk b o d (PT.ats l)
def PT.ats : List PT → List AT
  | [] => []
  | t :: ts => t.at_ :: PT.ats ts
end
theorem PT.ats_map : ∀ l : List PT, PT.ats l = l.map PT.at_
  | [] => by simp [PT.ats]
  | t :: ts => by simp [PT.ats, PT.ats_map ts]
theorem PT.at_mk (b o : Nat) (d : ND) (p : List Tr) (l : List PT) : (PT.mk b o d p l).at_ = .mk b o d (l.map PT.at_) := by simp [PT.at_, PT.ats_map]
theorem PT.at_tr (x : PT) : (∀ i ∈ x.its, i.p = []) → x.at_.tr = x.tr := by
  induction x using PT.ind with
  | _ b o d p l ih =>
    intro h
    have h0 : p = [] := h ⟨b, o, d, p, l.map PT.ad⟩ (by rw [PT.its_mk]; simp)
    subst h0
    rw [PT.at_mk, PT.tr_mk, AT.tr, AT.trs_map, List.map_map, List.nil_append]
    congr 1
    refine List.map_congr_left fun t ht => ih t ht (fun i hi => h i ?_)
    rw [PT.its_mk]; exact List.mem_cons_of_mem _ (List.mem_flatMap.2 ⟨t, ht, hi⟩)
end Go.Proofs.Ytbkmnboicihchaa
