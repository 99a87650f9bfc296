/- A step of tree.copied. -/
import Derived.Test.YtbkmnboicihchaaPm
namespace Go.Proofs.Ytbkmnboicihchaa
set_option linter.unusedSimpArgs false
set_option linter.unusedVariables false
open Go.RowKit Go.Shelf

/-- a tree is being copied; its root lies at the head of block lo, what is new from there on. -/
structure Cop (W0 : World) (lo : Nat) (t : Tr) (w : World) (a : PT) : Prop where
  tr : a.tr = t
  ad : a.ad = (lo, 0)
  nodup : a.adrs.Nodup
  ok : ∀ x ∈ a.its, ItOk W0 lo w x
theorem Cop.block {W0 w w' : World} {lo : Nat} {t : Tr} {a : PT} (h : Cop W0 lo t w a) (hs : w.heap.size ≤ w'.heap.size) (hb : ∀ x ∈ a.its, w'.heap[x.b]? = w.heap[x.b]?) : Cop W0 lo t w' a :=
  ⟨h.tr, h.ad, h.nodup, fun x hx => (h.ok x hx).block hs (hb x hx)⟩
theorem ad_inj {a : PT} (h : a.adrs.Nodup) {x y : It} (hx : x ∈ a.its) (hy : y ∈ a.its) (e : x.ad = y.ad) : x = y := by
  have key : ∀ l : List It, (l.map It.ad).Nodup → x ∈ l → y ∈ l → x = y := by
    intro l
    induction l with
    | nil => intro _ h; cases h
    | cons z l ih =>
      intro hn hx hy
      rw [List.map_cons, List.nodup_cons] at hn
      rcases List.mem_cons.1 hx with g | g <;> rcases List.mem_cons.1 hy with g' | g'
      · rw [g, g']
      · exact absurd (List.mem_map.2 ⟨y, g', by rw [← e, g]⟩) hn.1
      · exact absurd (List.mem_map.2 ⟨x, g, by rw [e, g']⟩) hn.1
      · exact ih hn.2 g g'
  exact key _ h hx hy
/-- what a node's new list makes of the copy. -/
structure Stepped (W0 : World) (lo : Nat) (t : Tr) (w3 : World) (a : PT) (x : It) (kb : Nat) (a' : PT) : Prop where
  cop : Cop W0 lo t w3 a'
  pend : ∀ i ∈ a'.its, i.p ≠ [] → i ∈ itsOf kb 0 x.p ∨ (i ∈ a.its ∧ i.ad ≠ x.ad)
  stay : ∀ i ∈ a.its, i.ad ≠ x.ad → i ∈ a'.its
  kids : ∀ i ∈ itsOf kb 0 x.p, i ∈ a'.its
  blocks : ∀ i ∈ a'.its, i.b = kb ∨ ∃ j ∈ a.its, i.b = j.b
theorem pt_step {W0 wr w2 : World} {lo : Nat} {t : Tr} {a : PT} (hc : Cop W0 lo t wr a) (hW : Below lo W0 wr) {x : It} (hx : x ∈ a.its) (hk : x.ks = []) {A' : Option Addr} {cap kb : Nat} {xs : List Value} (hlo : lo ≤ wr.heap.size) (hb : Below wr.heap.size wr w2) (hrow : NRow wr lo x.p xs) (hcap : x.p.length ≤ cap) (hcm : cap ≤ 9223372036854775807) (hkb : wr.heap.size ≤ kb)
    (hA : (x.p = [] ∧ xs = []) ∨ (A' = some ⟨kb, 0, none⟩ ∧ kb < w2.heap.size ∧ (∀ o, w2.frozen? ⟨kb, o, none⟩ = false) ∧ ∀ j u, xs[j]? = some u → w2.cell? ⟨kb, j, none⟩ = some u)) :
    Stepped W0 lo t (w2.setCell ⟨x.b, x.o + 21, none⟩ (.slice A' x.p.length cap)) a x kb (a.sub x.b x.o (kidsOf kb 0 x.p)) := by
  obtain ⟨b, o, d, p, ks⟩ := x
  simp only at hk hrow hcap hA hx ⊢
  subst hk
  have hxo := hc.ok _ hx
  have hone : ∀ j ∈ a.its, j.ad = (b, o) → j = ⟨b, o, d, p, []⟩ := fun j hj e => ad_inj hc.nodup hj hx e
  have hmem : (b, o) ∈ a.adrs := List.mem_map.2 ⟨_, hx, rfl⟩
  have hnew : ∀ q ∈ (kidsOf kb 0 p).flatMap PT.adrs, q ∉ a.adrs := by
    intro q hq hq2
    rw [kidsOf_adrs] at hq
    obtain ⟨y, hy, rfl⟩ := List.mem_map.1 hq
    obtain ⟨i, hi, rfl⟩ := itsOf_mem _ _ _ y hy
    obtain ⟨z, hz, he⟩ := List.mem_map.1 hq2
    have := (hc.ok z hz).2.1
    simp only [It.ad, Prod.mk.injEq] at he
    omega
  have hbne : b < wr.heap.size := hxo.2.1
  have hkids : ∀ y ∈ itsOf kb 0 p, ItOk W0 lo (w2.setCell ⟨b, o + 21, none⟩ (.slice A' p.length cap)) y := by
    rcases hA with ⟨rfl, -⟩ | ⟨-, h1, h2, h3⟩
    · intro y hy; simp [itsOf] at hy
    · refine itsOf_ok (w1 := wr) (by omega) (by rw [size_setCell]; exact h1) (fun o' => (World.frozen?_setCell _ _ _ _).trans (h2 o')) hW hrow rfl (fun j u hu => ?_)
      rw [World.cell?_setCell_other _ _ _ _ (fun e => by simp only [Addr.mk.injEq] at e; omega), Nat.zero_add]
      exact h3 j u hu
  refine ⟨⟨?_, ?_, ?_, ?_⟩, ?_, ?_, ?_, ?_⟩
  · rw [PT.tr_sub, hc.tr]
    intro j hj e
    rw [hone j hj e, kidsOf_tr]
    exact ⟨rfl, rfl⟩
  · rw [PT.ad_sub]; exact hc.ad
  · exact PT.nodup_sub _ _ _ (by rw [kidsOf_adrs]; exact itsOf_nodup _ _ _) _ hc.nodup hnew
  · intro y hy
    rcases PT.its_sub _ _ _ _ y hy with ⟨h1, h2⟩ | h | ⟨h1, h2, h3, j, h4, h5, h6⟩
    · exact ((hc.ok y h1).below hb).other hxo.2.2.1 h2 _
    · rw [kidsOf_its] at h
      exact hkids y h
    · obtain ⟨b', o', d', p', ks'⟩ := y
      simp only [It.ad, Prod.mk.injEq] at h1
      obtain ⟨rfl, rfl⟩ := h1
      simp only at h2 h3 h6
      subst h2 h3
      rw [hone j h4 h5] at h6
      simp only at h6
      subst h6
      obtain ⟨g1, g2, g3, g4, g5, A, c, g6, g7, g8, g9, g10⟩ := hxo.below hb
      have hlen : ((kidsOf kb 0 p).map PT.ad).length = p.length := by rw [List.length_map, kidsOf_len]
      refine ⟨g1, by rw [size_setCell]; exact g2, g3, g4, fun o' => (World.frozen?_setCell _ _ _ _).trans (g5 o'), A', cap, ?_, ?_, hcm, .inl rfl, ?_⟩
      · simp only [List.length_nil, Nat.zero_add, hlen]
        exact g6.last
      · simp only [List.length_nil, Nat.zero_add, hlen]; exact hcap
      · rcases hA with ⟨rfl, -⟩ | ⟨rfl, -⟩
        · exact .inl rfl
        · refine .inr ⟨kb, rfl, fun i hi => ?_⟩
          rw [kidsOf_ad kb 0 p i hi, Nat.zero_add]
  · intro i hi hp
    rcases PT.its_sub _ _ _ _ i hi with ⟨h1, h2⟩ | h | ⟨-, h2, -⟩
    · exact .inr ⟨h1, h2⟩
    · rw [kidsOf_its] at h; exact .inl h
    · exact absurd h2 hp
  · exact fun i hi hn => PT.mem_sub _ _ _ _ (fun j hj e => by rw [hone j hj e]) i hi hn
  · exact fun i hi => PT.new_sub _ _ _ _ hmem i (by rw [kidsOf_its]; exact hi)
  · intro i hi
    rcases PT.its_sub _ _ _ _ i hi with ⟨h1, h2⟩ | h | ⟨h1, h2, h3, j, h4, h5, h6⟩
    · exact .inr ⟨i, h1, rfl⟩
    · rw [kidsOf_its] at h
      obtain ⟨k, hk, rfl⟩ := itsOf_mem _ _ _ i h
      exact .inl rfl
    · refine .inr ⟨j, h4, ?_⟩
      have := h1.trans h5.symm
      simp only [It.ad, Prod.mk.injEq] at this
      exact this.1
theorem Cop.nil {W0 w : World} {lo : Nat} {t : Tr} {a : PT} (h : Cop W0 lo t w a) {x : It} (hx : x ∈ a.its) (hp : x.p = []) (hk : x.ks = []) : Cop W0 lo t (w.setCell ⟨x.b, x.o + 21, none⟩ (.slice none 0 0)) a := by
  refine ⟨h.tr, h.ad, h.nodup, fun y hy => ?_⟩
  by_cases e : y.ad = x.ad
  · rw [ad_inj h.nodup hy hx e]; exact (h.ok x hx).nil hp hk
  · exact (h.ok y hy).other (h.ok x hx).2.2.1 e _
/-- nodes that wait: how much there is to do. -/
def iwait (l : List It) : Nat := (l.map fun x => Tr.sizes x.p + 1).sum
def iptr (x : It) : Value := .pointer (some ⟨x.b, x.o, none⟩)
def ipend (l : List It) : List It := l.filter fun x => !x.p.isEmpty
theorem iwait_append (l m : List It) : iwait (l ++ m) = iwait l + iwait m := by simp [iwait]
theorem iwait_len (l : List It) : l.length ≤ iwait l := by
  induction l with
  | nil => simp [iwait]
  | cons x l ih =>
    have h2 : iwait (x :: l) = (Tr.sizes x.p + 1) + iwait l := by simp [iwait]
    rw [h2, List.length_cons]; omega
theorem iwait_kids (b : Nat) : ∀ (o : Nat) (l : List Tr), iwait (itsOf b o l) = Tr.sizes l
  | _, [] => by simp [itsOf, iwait, Tr.sizes]
  | o, t :: ts => by
    have h : iwait (itsOf b o (t :: ts)) = (Tr.sizes t.l + 1) + iwait (itsOf b (o + 22) ts) := by simp [itsOf, iwait]
    rw [h, iwait_kids b (o + 22) ts]
    have e : t.size = Tr.sizes t.l + 1 := by cases t; simp [Tr.size, Tr.l]
    simp only [Tr.sizes]; omega
theorem iwait_filter (q : It → Bool) (l : List It) : iwait (l.filter q) ≤ iwait l := by
  induction l with
  | nil => simp [iwait]
  | cons x l ih =>
    have h2 : iwait (x :: l) = (Tr.sizes x.p + 1) + iwait l := by simp [iwait]
    rw [List.filter_cons]
    split
    · have h3 : iwait (x :: l.filter q) = (Tr.sizes x.p + 1) + iwait (l.filter q) := by simp [iwait]
      omega
    · omega
theorem iwait_pend (l : List It) : iwait (ipend l) ≤ iwait l := iwait_filter _ l
theorem ipend_take {l : List It} {k : Nat} (hk : k < l.length) : ipend (l.take (k + 1)) = ipend (l.take k) ++ (if l[k].p = [] then [] else [l[k]]) := by
  unfold ipend
  rw [List.take_succ_eq_append_getElem hk, List.filter_append]
  congr 1
  by_cases h : l[k].p = []
  · simp [h]
  · simp [h]
end Go.Proofs.Ytbkmnboicihchaa
