/- tree.Same. The reference's Same: whole. -/
import Derived.Test.YtbiacjkkgddclaaGreatNdSr
import Derived.Test.YtbiacjkkgddclaaGreatSzAlBa
import Derived.Outline
import Derived.Deep.AppendLies
import Derived.Deep.RegionHeld3
namespace Go.Proofs.YtbiacjkkgddclaaGreat
open Go.RowKit Go.Shelf

/-- two nodes in memory. -/
abbrev Pr (w : World) (B : Nat) : Type := { x : AT × AT // ATAt w B x.1 ∧ ATAt w B x.2 }
def Pr.cells {w : World} {B : Nat} (x : Pr w B) : List Value := [.pointer (some ⟨x.1.1.b, x.1.1.o, none⟩), .pointer (some ⟨x.1.2.b, x.1.2.o, none⟩)]
section
variable {w : World} {B : Nat}
/-- are all pairs that wait the same? -/
def pend (st : List (Pr w B)) : Bool := st.all fun x => sameB x.1.1.tr x.1.2.tr
def wait (st : List (Pr w B)) : Nat := (st.map fun x => x.1.1.tr.size).sum
theorem pend_append (st kids : List (Pr w B)) : pend (st ++ kids) = (pend st && pend kids) := by simp [pend]
theorem wait_append (st kids : List (Pr w B)) : wait (st ++ kids) = wait st + wait kids := by simp [wait]
theorem wait_len (st : List (Pr w B)) : st.length ≤ wait st := by
  induction st with
  | nil => simp [wait]
  | cons x st ih =>
    have h1 := x.1.1.tr.size_pos
    have h2 : wait (x :: st) = x.1.1.tr.size + wait st := by simp [wait]
    rw [h2, List.length_cons]; omega
theorem pflat_len (st : List (Pr w B)) : (st.flatMap Pr.cells).length = st.length * 2 := by
  induction st with
  | nil => rfl
  | cons x st ih => simp [List.flatMap_cons, ih, Pr.cells]; omega
theorem pflat_top (st : List (Pr w B)) (x : Pr w B) : ((st ++ [x]).flatMap Pr.cells)[st.length * 2]? = some (.pointer (some ⟨x.1.1.b, x.1.1.o, none⟩)) ∧ ((st ++ [x]).flatMap Pr.cells)[st.length * 2 + 1]? = some (.pointer (some ⟨x.1.2.b, x.1.2.o, none⟩)) := by
  rw [List.flatMap_append, ← pflat_len st]
  constructor <;> simp [Pr.cells]
end
/-- the pairs of the nodes below two nodes that are alike. -/
theorem pkids {w : World} {B : Nat} (x : Pr w B) {A A' : Option Addr} (hn : x.1.1.l.length = x.1.2.l.length) (h : x.1.1.l = [] ∨ ∃ b' o', A = some ⟨b', o', none⟩ ∧ ATs w B b' o' x.1.1.l) (h' : x.1.2.l = [] ∨ ∃ b' o', A' = some ⟨b', o', none⟩ ∧ ATs w B b' o' x.1.2.l) :
    ∃ kids : List (Pr w B), kids.length = x.1.1.l.length ∧ pend kids = samesB (x.1.1.l.map AT.tr) (x.1.2.l.map AT.tr) ∧ wait kids = Tr.sizes (x.1.1.l.map AT.tr) ∧ ∀ i (hi : i < kids.length), ∃ b' o' b'' o'', A = some ⟨b', o', none⟩ ∧ A' = some ⟨b'', o'', none⟩ ∧ kids[i].cells = [.pointer (some ⟨b', o' + i * 22, none⟩), .pointer (some ⟨b'', o'' + i * 22, none⟩)] := by
  rcases h with h | ⟨b', o', hA, h⟩
  · have h2 : x.1.2.l = [] := by rw [h] at hn; exact List.eq_nil_of_length_eq_zero hn.symm
    exact ⟨[], by rw [h]; rfl, by rw [h, h2]; simp [pend, samesB], by rw [h]; simp [wait, Tr.sizes], fun i hi => by simp at hi⟩
  rcases h' with h' | ⟨b'', o'', hA', h'⟩
  · have h2 : x.1.1.l = [] := by rw [h'] at hn; exact List.eq_nil_of_length_eq_zero hn
    exact ⟨[], by rw [h2]; rfl, by rw [h', h2]; simp [pend, samesB], by rw [h2]; simp [wait, Tr.sizes], fun i hi => by simp at hi⟩
  have key : ∀ (l l' : List AT) (o o' : Nat), l.length = l'.length → ATs w B b' o l → ATs w B b'' o' l' → ∃ kids : List (Pr w B), kids.length = l.length ∧ pend kids = samesB (l.map AT.tr) (l'.map AT.tr) ∧ wait kids = Tr.sizes (l.map AT.tr) ∧ ∀ i (hi : i < kids.length), kids[i].cells = [.pointer (some ⟨b', o + i * 22, none⟩), .pointer (some ⟨b'', o' + i * 22, none⟩)] := by
    intro l
    induction l with
    | nil =>
      intro l' o o' hl _ _
      have : l' = [] := List.eq_nil_of_length_eq_zero hl.symm
      subst this
      exact ⟨[], rfl, by simp [pend, samesB], by simp [wait, Tr.sizes], fun i hi => by simp at hi⟩
    | cons t ts ih =>
      intro l' o o' hl h h'
      cases l' with
      | nil => simp at hl
      | cons t' ts' =>
        simp only [ATs] at h h'
        obtain ⟨h1, h2, h3, h4⟩ := h
        obtain ⟨h1', h2', h3', h4'⟩ := h'
        obtain ⟨kids, e1, e2, e3, e4⟩ := ih ts' (o + 22) (o' + 22) (by simpa using hl) h4 h4'
        refine ⟨⟨(t, t'), h3, h3'⟩ :: kids, by simp [e1], ?_, ?_, ?_⟩
        · have : pend (⟨(t, t'), h3, h3'⟩ :: kids) = (sameB t.tr t'.tr && pend kids) := by simp [pend]
          rw [this, e2]; simp [samesB]
        · have : wait (⟨(t, t'), h3, h3'⟩ :: kids) = t.tr.size + wait kids := by simp [wait]
          rw [this, e3]; simp [Tr.sizes]
        · intro i hi
          match i, hi with
          | 0, _ => simp only [List.getElem_cons_zero, Pr.cells, h1, h2, h1', h2']; simp
          | i + 1, hi =>
            simp only [List.getElem_cons_succ]
            rw [e4 i (by simpa using hi)]
            rw [show o + 22 + i * 22 = o + (i + 1) * 22 by omega, show o' + 22 + i * 22 = o' + (i + 1) * 22 by omega]
  obtain ⟨kids, e1, e2, e3, e4⟩ := key x.1.1.l x.1.2.l o' o'' hn h h'
  exact ⟨kids, e1, e2, e3, fun i hi => ⟨b', o', b'', o'', hA, hA', e4 i hi⟩⟩

theorem info74 : (Tryz.prog.info? 108).map (fun i => (i.zero, i.size, i.bytes)) = some (some (.agg #[.pointer none, .pointer none]), 2, 16) := by kernel_rfl
theorem und75 : Tryz.prog.underlying 109 = some (.slice 108) := by kernel_rfl

def SRel {W0 : World} {n₀ : Nat} (r : Bool) (base M : Nat) (gk : Nat) (v : Value) (wr : World) : Prop :=
  ∃ st : List (Pr W0 n₀), gk = wait st ∧ wait st ≤ M ∧ r = pend st ∧ wr.ownsRow base 108 2 v st.length (st.flatMap Pr.cells) ∧ Below n₀ W0 wr ∧ base ≤ wr.heap.size

/-- where the pushing of the pairs below stands. -/
def PSRel {W0 : World} {n₀ : Nat} (kids st : List (Pr W0 n₀)) (base tb : Nat) (x : Pr W0 n₀) (gk : Nat) (v i : Value) (wr : World) : Prop :=
  ∃ k g cap N, k ≤ kids.length ∧ gk = kids.length - k ∧ i = .int .i64 (k : Nat) ∧ N = st.length + k ∧ v = .slice (some ⟨g, 0, none⟩) N cap ∧ wr.ownsRow base 108 2 (.slice (some ⟨g, 0, none⟩) N cap) N ((st ++ kids.take k).flatMap Pr.cells) ∧ g ≠ tb ∧ Below n₀ W0 wr ∧ base ≤ wr.heap.size ∧
    wr.heap[tb]? = some (.cells x.cells.toArray 108)
theorem powns {W0 W W2 : World} {n₀ base g cap : Nat} {T : TypeId} {st : List (Pr W0 n₀)} {x : Pr W0 n₀} (h : W.ownsRow base T 2 (.slice (some ⟨g, 0, none⟩) (st ++ [x]).length cap) (st ++ [x]).length ((st ++ [x]).flatMap Pr.cells)) (hk : W2.heap[g]? = W.heap[g]?) :
    W2.ownsRow base T 2 (.slice (some ⟨g, 0, none⟩) st.length cap) st.length (st.flatMap Pr.cells) := by
  rcases h.2 with ⟨h1, _⟩ | ⟨g', cap', cur, hv, hb, hg, hn, hc, hs, ht⟩
  · cases h1
  · simp only [Value.slice.injEq, Option.some.injEq, Addr.mk.injEq] at hv
    obtain ⟨⟨rfl, -⟩, -, rfl⟩ := hv
    refine ⟨pflat_len st, .inr ⟨g, cap, cur, rfl, hb, hk.trans hg, ?_, hc, hs, ?_⟩⟩
    · simp at hn; omega
    · have : cur.toList.take (st.length * 2) = ((cur.toList.take ((st ++ [x]).length * 2))).take (st.length * 2) := by
        rw [List.take_take]; congr 1; simp
      rw [this, ht, List.flatMap_append, ← pflat_len st, List.take_left']
      rfl

theorem keep_push {wr w1 : World} {o : Obj} {g' tb b1 o1 b2 o2 : Nat} {v1 v2 v3 v4 : Value} (hg : (wr.alloc o).drew.grownBy w1 (some g')) (h1 : (some tb : Option Nat) ≠ some g') (h2 : (some b1 : Option Nat) ≠ some g') (h3 : (some b2 : Option Nat) ≠ some g')
    (l1 : tb < wr.heap.size) (l2 : b1 < wr.heap.size) (l3 : b2 < wr.heap.size) (c1 : wr.cell? ⟨tb, 0, none⟩ = some v1) (c2 : wr.cell? ⟨tb, 1, none⟩ = some v2) (c3 : wr.cell? ⟨b1, o1, none⟩ = some v3) (c4 : wr.cell? ⟨b2, o2, none⟩ = some v4) :
    w1.cell? ⟨tb, 0, none⟩ = some v1 ∧ w1.cell? ⟨tb, 1, none⟩ = some v2 ∧ w1.cell? ⟨b1, o1, none⟩ = some v3 ∧ w1.cell? ⟨b2, o2, none⟩ = some v4 := by
  have key : ∀ b f v, b < wr.heap.size → (some b : Option Nat) ≠ some g' → wr.cell? ⟨b, f, none⟩ = some v → w1.cell? ⟨b, f, none⟩ = some v := fun b f v hl hn hc =>
    (World.cell?_of_block (a := ⟨b, f, none⟩) (hg.block b (by simp; omega) hn)).trans ((World.cell?_of_block (a := ⟨b, f, none⟩) (heapOld wr o b hl)).trans hc)
  exact ⟨key _ _ _ l1 h1 c1, key _ _ _ l1 h1 c2, key _ _ _ l2 h2 c3, key _ _ _ l3 h3 c4⟩

set_option maxRecDepth 100000 in
set_option maxHeartbeats 4000000 in
theorem tsame_c (t t' : Tr) (w : World) (B : Nat) (A A' : Option Addr) (c c' : Nat) (hd : t.d.ok) (hs : SlAt w B A c t.l) (hd' : t'.d.ok) (hs' : SlAt w B A' c' t'.l) (hB : B ≤ w.heap.size) (hsz : t.size ≤ 1099511627776) :
    Calls Tryz.prog 54 #[nodeV t.d A t.l.length c, nodeV t'.d A' t'.l.length c'] w fun e w' => e = .returned (.bool (sameB t t')) ∧ Below w.heap.size w w' := by
  obtain ⟨r, hr⟩ : ∃ r, sameB t t' = r := ⟨_, rfl⟩
  rw [hr]
  have HR := Lib.hid hr
  obtain ⟨N, hN⟩ : ∃ N, N = nodeA t.d A t.l.length c := ⟨_, rfl⟩
  obtain ⟨N', hN'⟩ : ∃ N, N = nodeA t'.d A' t'.l.length c' := ⟨_, rfl⟩
  rw [nodeV, nodeV, ← hN, ← hN']
  obtain ⟨W0, hW0⟩ : ∃ W0, W0 = (w.alloc (.cells N 35)).alloc (.cells N' 35) := ⟨_, rfl⟩
  have hz0 : W0.heap.size = w.heap.size + 2 := by rw [hW0]; simp
  have hbel0 : Below w.heap.size w W0 := by rw [hW0]; exact ((Below.refl _ w).alloc (Nat.le_refl _) _).alloc (by simp) _
  have hbk : W0.heap[w.heap.size]? = some (.cells N 35) := by rw [hW0]; exact (heapOld _ _ _ (by simp)).trans (heap_alloc_new _ _)
  have hbk' : W0.heap[w.heap.size + 1]? = some (.cells N' 35) := by
    rw [hW0]
    have := heap_alloc_new (w.alloc (.cells N 35)) (.cells N' 35)
    rwa [World.size_alloc] at this
  rw [hN] at hbk
  rw [hN'] at hbk'
  obtain ⟨a, ha, hab, hao, haa⟩ := NodeAt.addr t _ _ (NodeAt.more (show w.heap.size + 1 ≤ w.heap.size + 2 by omega) t _ _ (boxed_node hd hs hB (hbel0.mono hB) hbk))
  obtain ⟨a', ha', hab', hao', haa'⟩ := NodeAt.addr t' _ _ (boxed_node hd' hs' (show B ≤ w.heap.size + 1 by omega) (hbel0.mono hB) hbk')
  obtain ⟨p0, hp0⟩ : ∃ p0 : Pr W0 (w.heap.size + 2), p0.1 = (a, a') := ⟨⟨(a, a'), haa, haa'⟩, rfl⟩
  obtain ⟨ti, hti, hz1, hz2, hz3⟩ := info_parts info74
  have HB0 := Lib.hid hbel0
  have HP0 := Lib.hid hp0
  have HZ0 := Lib.hid hz0
  have HW0 := Lib.hid hW0
  have HA := Lib.hid (show a.tr = t ∧ a.b = w.heap.size ∧ a.o = 0 from ⟨ha, hab, hao⟩)
  have HA' := Lib.hid (show a'.tr = t' ∧ a'.b = w.heap.size + 1 ∧ a'.o = 0 from ⟨ha', hab', hao'⟩)
  clear hr hN hN' hW0 hz0 hbel0 hbk hbk' ha hab hao haa ha' hab' hao' haa' hp0 hd hs hd' hs'
  go_enter Tryz.func54, Tryz.ntmps54
  go_wp2
  go_loopg [5] t.size (fun gk v wr => SRel (W0 := W0) (n₀ := w.heap.size + 2) r (w.heap.size + 2) t.size gk v wr)
  case atStart =>
    obtain ⟨e1, e2, e3⟩ := HA.out
    obtain ⟨f1, f2, f3⟩ := HA'.out
    have hp := HP0.out
    refine ⟨[p0], ?_, ?_, ?_, ?_, ?_, by simp⟩
    · simp [wait, hp, e1]
    · simp [wait, hp, e1]
    · rw [← HR.out]; simp [pend, hp, e1, f1]
    · have hblk : ∀ o : Obj, (W0.alloc o).heap[w.heap.size + 2]? = some o := fun o => by have := World.alloc_heap_new W0 o; rwa [HZ0.out] at this
      rw [← HW0.out]
      refine ⟨by simp [Pr.cells], .inr ⟨w.heap.size + 2, 1, _, rfl, Nat.le_refl _, hblk _, Nat.le_refl _, by unfold maxLen; omega, rfl, ?_⟩⟩
      simp [Pr.cells, hp, e2, e3, f2, f3]
    · rw [← HW0.out]; exact (Below.refl _ _).alloc (by rw [HZ0.out]; exact Nat.le_refl _) _
  case round =>
    obtain ⟨st, rfl, hwt, hpe, hown, hbel, hszb⟩ := hrel
    have HPE := Lib.hid hpe
    clear hpe
    rcases List.eq_nil_or_concat st with rfl | ⟨st, x, rfl⟩
    · have hr1 : r = true := by rw [HPE.out]; rfl
      have HBL := Lib.hid hbel
      clear hbel
      rcases hown.2 with ⟨rfl, _⟩ | ⟨g, cap, cur, rfl, _⟩
      all_goals
        clear hown
        try simp only [List.length_nil]
        go_wp2
        go_ret
        exact ⟨ret_bool hr1.symm, (HB0.out).trans (HBL.out.mono (by omega))⟩
    · rw [List.concat_eq_append] at *
      obtain ⟨g, cap, cur, rfl, hbg, hgg, hnc, hcm, hcs, htk⟩ := own_form hown (by simp)
      have hc0 : wr.cell? ⟨g, st.length * 2, none⟩ = some (.pointer (some ⟨x.1.1.b, x.1.1.o, none⟩)) := own_cell hown rfl _ _ (pflat_top st x).1
      have hc1 : wr.cell? ⟨g, st.length * 2 + 1, none⟩ = some (.pointer (some ⟨x.1.2.b, x.1.2.o, none⟩)) := own_cell hown rfl _ _ (pflat_top st x).2
      have hlen : (st ++ [x]).length = st.length + 1 := by simp
      have hlm : st.length + 1 ≤ t.size := by have := wait_len (st ++ [x]); rw [hlen] at this; omega
      have hgl : g < wr.heap.size := (Array.getElem?_eq_some_iff.1 hgg).1
      have HO := Lib.hid hown
      clear hown htk hgg hcs
      rw [hlen] at hnc ⊢
      obtain ⟨hxb, A2, c2, hx0, hxk⟩ := x.2.1.cells_ (Below.refl _ W0)
      obtain ⟨hxb', A3, c3, hx0', hxk'⟩ := x.2.2.cells_ (Below.refl _ W0)
      have hbA : Below (w.heap.size + 2) W0 (wr.alloc (.cells x.cells.toArray 108)) := hbel.alloc hszb _
      have hxc := hx0.keep (w' := wr.alloc (.cells x.cells.toArray 108)) (fun p hp => hbA.cell (by rw [hp]; exact hxb))
      have hxc' := hx0'.keep (w' := wr.alloc (.cells x.cells.toArray 108)) (fun p hp => hbA.cell (by rw [hp]; exact hxb'))
      have hal := alike_c _ _ _ _ _ _ _ _ _ _ _ _ _ hxc hxc'
      obtain ⟨ra, hra⟩ : ∃ ra, decide (x.1.1.d = x.1.2.d ∧ x.1.1.l.length = x.1.2.l.length) = ra := ⟨_, rfl⟩
      rw [hra] at hal
      simp only [Pr.cells] at hal
      have HAL := Lib.hid hal
      have HRA := Lib.hid hra
      have HX0 := Lib.hid hx0
      have HX0' := Lib.hid hx0'
      have HXK := Lib.hid hxk
      have HXK' := Lib.hid hxk'
      have HBL := Lib.hid hbel
      have hlm' : (st.length : Int) + 1 ≤ 1099511627776 := by omega
      clear hal hra hxk hxk' hbel hbA hxc hxc' hx0 hx0'
      have hpend : pend (st ++ [x]) = (pend st && sameB x.1.1.tr x.1.2.tr) := by rw [pend_append]; simp [pend]
      have HPD := Lib.hid hpend
      clear hpend
      cases ra
      · go_wp2_with (go_at_call 69; refine HAL.out.mono ?_; rintro e w2 ⟨rfl, m, rfl⟩)
        go_ret
        refine ⟨ret_bool ?_, ?_⟩
        · rw [HPE.out, HPD.out, AT.tr_eq x.1.1, AT.tr_eq x.1.2]
          simp only [sameB]
          have h1 := HRA.out
          rw [decide_eq_false_iff_not] at h1
          cases hs2 : samesB (x.1.1.l.map AT.tr) (x.1.2.l.map AT.tr) with
          | false => simp
          | true =>
            have := samesB_len hs2
            simp only [List.length_map] at this
            simp; intro _ h3; exact absurd ⟨h3, this⟩ h1
        · exact below_drewN (HB0.out.trans ((HBL.out.alloc hszb _).mono (by omega))) m
      · have hnn : x.1.1.l.length = x.1.2.l.length := (of_decide_eq_true HRA.out).2
        have hdd : x.1.1.d = x.1.2.d := (of_decide_eq_true HRA.out).1
        obtain ⟨kids, hkl, hkp, hkw, hkc⟩ := pkids x (A := A2) (A' := A3) hnn HXK.out.2.2 HXK'.out.2.2
        have hsame : sameB x.1.1.tr x.1.2.tr = pend kids := by
          rw [hkp, AT.tr_eq x.1.1, AT.tr_eq x.1.2]; simp [sameB, hdd]
        have hwx : wait (st ++ [x]) = wait st + (1 + wait kids) := by
          rw [wait_append, hkw]
          have : wait [x] = x.1.1.tr.size := by simp [wait]
          rw [this, AT.tr_eq x.1.1]; simp only [Tr.size]; omega
        have hx21 : wr.cell? ⟨x.1.1.b, x.1.1.o + 21, none⟩ = some (.slice A2 x.1.1.l.length c2) := (HBL.out.cell (p := ⟨x.1.1.b, x.1.1.o + 21, none⟩) hxb).trans (HX0.out 21 (by decide))
        have hxlt : x.1.1.b < wr.heap.size := by omega
        have hkn : kids.length + st.length + 1 ≤ t.size := by have := wait_len kids; have := wait_len st; omega
        have HKL := Lib.hid hkl
        have HKC := Lib.hid hkc
        have HSM := Lib.hid hsame
        have HWX := Lib.hid hwx
        have HNN := Lib.hid hnn
        have hkle : kids.length ≤ c2 := by rw [hkl]; exact HXK.out.1
        have hkle3 : kids.length ≤ c3 := by rw [hkl, hnn]; exact HXK'.out.1
        have hc2m := HXK.out.2.1
        have hc3m := HXK'.out.2.1
        clear hnn hdd hkp hkw hkc hsame hwx
        rw [← hkl] at hx21
        clear hkl
        go_wp2_with (go_at_call 69; refine HAL.out.mono ?_; rintro e w2 ⟨rfl, m, rfl⟩)
        obtain ⟨wq, rfl⟩ : ∃ wq, wq = wr := ⟨wr, rfl⟩
        have hblk : ((wq.alloc (.cells x.cells.toArray 108)).drewN m).heap[wq.heap.size]? = some (.cells x.cells.toArray 108) := World.alloc_heap_new wq _
        have hpop : ((wq.alloc (.cells x.cells.toArray 108)).drewN m).ownsRow (w.heap.size + 2) 108 2 (.slice (some ⟨g, 0, none⟩) st.length cap) st.length (st.flatMap Pr.cells) := powns HO.out (heapOld wq _ _ hgl)
        have hbq : Below (w.heap.size + 2) W0 ((wq.alloc (.cells x.cells.toArray 108)).drewN m) := below_drewN (HBL.out.alloc hszb _) m
        have HBK := Lib.hid hblk
        have HPO := Lib.hid hpop
        have HBQ := Lib.hid hbq
        clear hblk hpop hbq hc0 hc1 hx21
        go_loopg [5, 36] kids.length (fun gk v i wr => PSRel (W0 := W0) (n₀ := w.heap.size + 2) kids st (w.heap.size + 2) wq.heap.size x gk v i wr)
        case atStart =>
          exact ⟨0, g, cap, st.length, Nat.zero_le _, rfl, rfl, rfl, rfl, by simp only [List.take_zero, List.append_nil]; exact HPO.out, by omega, HBQ.out, by simp; omega, HBK.out⟩
        case round =>
          obtain ⟨k, g', cap', N, hk, hgk, rfl, hN, rfl, hown', hgne, hbel', hsz', htop⟩ := hrel
          have HOW := Lib.hid hown'
          have HNN2 := Lib.hid hN
          have HBE := Lib.hid hbel'
          have HGK := Lib.hid hgk
          by_cases hlt : k < kids.length
          · obtain ⟨b2, o2, b3, o3, hA2, hA3, hkcs⟩ := HKC.out k hlt
            subst hA2 hA3
            have hl21 : wr.cell? ⟨x.1.1.b, x.1.1.o + 21, none⟩ = some (.slice (some ⟨b2, o2, none⟩) kids.length c2) := by
              rw [HKL.out]; exact (hbel'.cell (p := ⟨x.1.1.b, x.1.1.o + 21, none⟩) hxb).trans (HX0.out 21 (by decide))
            have hl21' : wr.cell? ⟨x.1.2.b, x.1.2.o + 21, none⟩ = some (.slice (some ⟨b3, o3, none⟩) kids.length c3) := by
              rw [HKL.out, HNN.out]; exact (hbel'.cell (p := ⟨x.1.2.b, x.1.2.o + 21, none⟩) hxb').trans (HX0'.out 21 (by decide))
            have hp0 : wr.cell? ⟨wq.heap.size, 0, none⟩ = some (.pointer (some ⟨x.1.1.b, x.1.1.o, none⟩)) := cell_of_row wr _ 0 _ _ _ htop
            have hp1 : wr.cell? ⟨wq.heap.size, 1, none⟩ = some (.pointer (some ⟨x.1.2.b, x.1.2.o, none⟩)) := cell_of_row wr _ 1 _ _ _ htop
            have htl : wq.heap.size < wr.heap.size := (Array.getElem?_eq_some_iff.1 htop).1
            have hj1 : (k : Int) < (kids.length : Int) := by omega
            have hj0 : (0 : Int) ≤ (k : Int) := by omega
            have hNM : N + 1 ≤ 1099511627776 := by omega
            obtain ⟨cs, hcs⟩ : ∃ cs : Array Value, cs = #[.pointer (some ⟨b2, o2 + k * 22, none⟩), .pointer (some ⟨b3, o3 + k * 22, none⟩)] := ⟨_, rfl⟩
            have hnew : ∀ j u, cs.toList[j]? = some u → (wr.alloc (.cells cs 108)).drew.cell? ((⟨wr.heap.size, 0, none⟩ : Addr).add j) = some u :=
              World.news_of_block (w := (wr.alloc (.cells cs 108)).drew) (heap_alloc_new wr (.cells cs 108))
            have hown'' : (wr.alloc (.cells cs 108)).drew.ownsRow (w.heap.size + 2) 108 2 (.slice (some ⟨g', 0, none⟩) N cap') N _ := (hown'.alloc (.cells cs 108)).drew
            subst hcs
            have HNE := Lib.hid hnew
            have HOW' := Lib.hid hown''
            have HKS := Lib.hid hkcs
            have HTP := Lib.hid htop
            clear hown' hown'' hnew hN hbel' hkcs htop hgk
            go_wp2
            have hne1 : (some wq.heap.size : Option Nat) ≠ some g' := fun e => hgne (Option.some.inj e).symm
            have hg'1 : w.heap.size + 2 ≤ g' := (HOW.out.lt g' rfl).1
            have hne2 : (some x.1.1.b : Option Nat) ≠ some g' := fun e => by have := Option.some.inj e; omega
            have hne3 : (some x.1.2.b : Option Nat) ≠ some g' := fun e => by have := Option.some.inj e; omega
            have hxr : x.1.1.b < wr.heap.size := by omega
            have hxr' : x.1.2.b < wr.heap.size := by omega
            have HN1 := Lib.hid hne1
            have HN2 := Lib.hid hne2
            have HN3 := Lib.hid hne3
            clear hne1 hne2 hne3
            go_region_held3 (fun w' => w'.cell? ⟨wq.heap.size, 0, none⟩ = some (.pointer (some ⟨x.1.1.b, x.1.1.o, none⟩)) ∧ w'.cell? ⟨wq.heap.size, 1, none⟩ = some (.pointer (some ⟨x.1.2.b, x.1.2.o, none⟩)) ∧ w'.cell? ⟨x.1.1.b, x.1.1.o + 21, none⟩ = some (.slice (some ⟨b2, o2, none⟩) kids.length c2) ∧ w'.cell? ⟨x.1.2.b, x.1.2.o + 21, none⟩ = some (.slice (some ⟨b3, o3, none⟩) kids.length c3))
              (first | go_keep | exact keep_push hgrow HN1.out HN2.out HN3.out (by simpa using htl) (by simpa using hxr) (by simpa using hxr') hp0 hp1 hl21 hl21')
              ((refine step_append_lies _ (by rfl) _ _ 109 (by rfl) (w.heap.size + 2) 108 ti _ 2 16 und75 hti hz1 hz2 hz3 rfl (by omega) _ N _ (by rfl) HOW'.out ⟨wr.heap.size, 0, none⟩ 1 1 _ (by rfl) (by rfl) HNE.out (by simp [Value.oneCell']) (by omega) (by unfold maxLen; omega) (by omega) (by simp; omega) (wr.heap.size + 1) (by simp) ?_; intro g2 cap2 w1 hown1 hgrow hat hlt2))
            have HO1 := Lib.hid hown1
            have HG1 := Lib.hid hgrow
            have HAT := Lib.hid hat
            clear hown1 hgrow hat
            go_wp2
            go_roundg (kids.length - (k + 1))
            case measure => have := HGK.out; omega
            case rel =>
              have hgr : (wr.alloc (.cells #[.pointer (some ⟨b2, o2 + k * 22, none⟩), .pointer (some ⟨b3, o3 + k * 22, none⟩)] 108)).grownBy w1 (some g') := ⟨HG1.out.os, HG1.out.tape, HG1.out.output, HG1.out.size, HG1.out.block⟩
              have hg' : w.heap.size + 2 ≤ g' ∧ g' < wr.heap.size := HOW.out.lt g' rfl
              have hlt0 : wr.heap.size ≤ w1.heap.size := by have := hgr.size; simp at this; omega
              have hge : ∀ j, (some g' : Option Nat) = some j → w.heap.size + 2 ≤ j := fun j e => by have := Option.some.inj e; omega
              refine ⟨k + 1, g2, cap2, N + 1, by omega, rfl, by go_num, by have := HNN2.out; omega, rfl, ?_, ?_, ?_, by omega, ?_⟩
              · rw [List.take_succ_eq_append_getElem hlt, ← List.append_assoc, List.flatMap_append]
                have hk1 : [kids[k]].flatMap Pr.cells = [.pointer (some ⟨b2, o2 + k * 22, none⟩), .pointer (some ⟨b3, o3 + k * 22, none⟩)] := by simp only [List.flatMap_cons, List.flatMap_nil, List.append_nil, HKS.out]
                rw [hk1]; exact HO1.out
              · rcases HAT.out with h | h
                · have h' : g' = g2 := by simpa [Value.ownBlock] using h
                  omega
                · omega
              · exact (HBE.out.alloc hsz' _).grown hgr (by simp; omega) hge
              · exact (hgr.block _ (by simp; omega) (fun e => hgne (Option.some.inj e).symm)).trans ((heapOld wr _ _ htl).trans HTP.out)
          · obtain rfl : k = kids.length := by omega
            clear hown' hN hbel' hgk htop
            go_wp2
            go_roundg (wait (st ++ kids))
            case measure => rw [HWX.out, wait_append]; omega
            case rel =>
              refine ⟨st ++ kids, rfl, by rw [wait_append]; have := HWX.out; omega, ?_, ?_, HBE.out, hsz'⟩
              · rw [HPE.out, HPD.out, HSM.out, pend_append]
              · have h1 := HOW.out
                rw [List.take_length] at h1
                have hNe : N = (st ++ kids).length := by rw [HNN2.out, List.length_append]
                subst hNe
                exact h1
end Go.Proofs.YtbiacjkkgddclaaGreat
namespace Go.Proofs.YtbiacjkkgddclaaGreat
open Go.RowKit Go.Shelf

def RSame (w : World) (n : Nat) (l l' : List Tr) (A A' : Option Addr) (c c' : Nat) (i : Value) (wr : World) : Prop :=
  ∃ j : Nat, j ≤ n ∧ i = .int .i64 j ∧ samesB (l.take j) (l'.take j) = true ∧ wr.cell? ⟨w.heap.size, 21, none⟩ = some (.slice A n c) ∧ wr.cell? ⟨w.heap.size + 1, 21, none⟩ = some (.slice A' n c') ∧ w.heap.size + 2 ≤ wr.heap.size ∧ Below w.heap.size w wr

set_option maxRecDepth 100000 in
set_option maxHeartbeats 4000000 in
theorem rsame_c (t : Tr) : ∀ (t' : Tr) (w : World) (B : Nat) (A A' : Option Addr) (c c' : Nat) (_ : t.d.ok) (_ : SlAt w B A c t.l) (_ : t'.d.ok) (_ : SlAt w B A' c' t'.l) (_ : B ≤ w.heap.size),
    Calls Tryz.prog 40 #[nodeV t.d A t.l.length c, nodeV t'.d A' t'.l.length c'] w fun e w' => e = .returned (.bool (sameB t t')) ∧ Below w.heap.size w w' := by
  induction t using Tr.ind with | _ d l ih => ?_
  rintro ⟨d', l'⟩ w B A A' c c' hd hs hd' hs' hB
  have IH := Lib.hid ih
  have HS := Lib.hid hs
  have HS' := Lib.hid hs'
  clear ih hd hs hd' hs'
  dsimp only [Tr.d, Tr.l] at HS HS' ⊢
  by_cases hne : d = d' ∧ l.length = l'.length
  case neg =>
    have : sameB (.mk d l) (.mk d' l') = false := by
      simp only [sameB, Bool.and_eq_false_iff]
      by_cases e : d = d'
      · right
        cases hh : samesB l l' with
        | false => rfl
        | true => exact absurd ⟨e, samesB_len hh⟩ hne
      · left; simpa using e
    rw [this]
    exact rsame_head w d d' A A' l.length c l'.length c' hne
  obtain ⟨rfl, hll⟩ := hne
  obtain ⟨n, hn⟩ : ∃ n, l.length = n := ⟨_, rfl⟩
  rw [← hll, hn]
  have HN := Lib.hid hn
  have HN' : Hid (l'.length = n) := hll.symm.trans hn
  have hres : sameB (.mk d l) (.mk d l') = samesB l l' := by simp [sameB]
  rw [hres]
  obtain ⟨r, hr⟩ : ∃ r, samesB l l' = r := ⟨_, rfl⟩
  rw [hr]
  have HR := Lib.hid hr
  have hsl : n ≤ c := hn ▸ HS.out.1
  have hsc := HS.out.2.1
  have hsl' : n ≤ c' := HN'.out ▸ HS'.out.1
  have hsc' := HS'.out.2.1
  clear hll hn hres hr
  obtain ⟨N, hN⟩ : ∃ N, N = nodeA d A n c := ⟨_, rfl⟩
  obtain ⟨N', hN'⟩ : ∃ N, N = nodeA d A' n c' := ⟨_, rfl⟩
  have hh := nodeA_all d A n c
  have hh' := nodeA_all d A' n c'
  rw [← hN] at hh
  rw [← hN'] at hh'
  rw [nodeV, nodeV, ← hN, ← hN']
  clear hN hN'
  obtain ⟨h0, h1, h2, h3, h4, h5, h6, h7, h8, h9, h10, h11, h12, h13, h14, h15, h16, h17, h18, h19, h20, h21⟩ := hh
  obtain ⟨h'0, h'1, h'2, h'3, h'4, h'5, h'6, h'7, h'8, h'9, h'10, h'11, h'12, h'13, h'14, h'15, h'16, h'17, h'18, h'19, h'20, h'21⟩ := hh'
  have r1 := fun w => eqV w d.v d.v
  rw [decide_eq_true rfl] at r1
  have r2 := fun w => eqA w d.a d.b d.a d.b
  rw [decide_eq_true ⟨rfl, rfl⟩] at r2
  have H21 := Lib.hid h21
  have H21' := Lib.hid h'21
  go_enter Tryz.func40, Tryz.ntmps40
  go_wp2
  clear h0 h1 h2 h3 h4 h5 h6 h7 h8 h9 h10 h11 h12 h13 h14 h15 h16 h17 h18 h19 h20 h21 h'0 h'1 h'2 h'3 h'4 h'5 h'6 h'7 h'8 h'9 h'10 h'11 h'12 h'13 h'14 h'15 h'16 h'17 h'18 h'19 h'20 h'21 r1 r2
  go_loopw [5] (fun i wr => RSame w n l l' A A' c c' i wr) (fun i _ => n - (intOf i).toNat)
  case atStart =>
    refine ⟨0, Nat.zero_le _, rfl, by simp [samesB], ?_, ?_, by simp, ?_⟩
    · exact (cell_of_row _ _ 21 _ _ _ ((heapOld _ _ _ (by simp)).trans (World.alloc_heap_new w _))).trans H21.out
    · have hblk := World.alloc_heap_new (w.alloc (.cells N 35)) (.cells N' 35)
      rw [World.size_alloc] at hblk
      exact (cell_of_row _ _ 21 _ _ _ hblk).trans H21'.out
    · exact ((Below.refl _ w).alloc (Nat.le_refl _) _).alloc (by simp) _
  case round =>
    obtain ⟨j, hj, rfl, hacc, hc, hc', hsz, hbel⟩ := hrel
    have HAC := Lib.hid hacc
    have HBE := Lib.hid hbel
    clear hacc hbel
    by_cases hlt : j < n
    · have hjl : j < l.length := by rw [HN.out]; exact hlt
      have hjl' : j < l'.length := by rw [HN'.out]; exact hlt
      obtain ⟨b2, o2, hA, hkn⟩ := HS.out.at_ j hjl
      obtain ⟨b3, o3, hA', hkn'⟩ := HS'.out.at_ j hjl'
      subst hA hA'
      obtain ⟨hkb, hkd, A2, c2, hkc, hks⟩ := hkn.open_
      obtain ⟨hkb', hkd', A3, c3, hkc', hks'⟩ := hkn'.open_
      have hbd : Below w.heap.size w wr.drew := HBE.out.drew
      have hkid := IH.out l[j] (List.getElem_mem hjl) l'[j] wr.drew B A2 A3 c2 c3 hkd (hks.below (hbd.mono hB)) hkd' (hks'.below (hbd.mono hB)) (by have := hbd.size; omega)
      obtain ⟨cs, hcs, hcl, hrg⟩ := hkc.range (w' := wr.drew) (fun p hp => hbd.cell (by omega))
      obtain ⟨cs', hcs', hcl', hrg'⟩ := hkc'.range (w' := wr.drew) (fun p hp => hbd.cell (by omega))
      rw [nodeV, nodeV, ← hcs, ← hcs'] at hkid
      have hinf := infN
      have hinf' := infN
      rw [← hcl] at hinf
      rw [← hcl'] at hinf'
      obtain ⟨rk, hrk⟩ : ∃ rk, sameB l[j] l'[j] = rk := ⟨_, rfl⟩
      rw [hrk] at hkid
      have HRG := Lib.hid hrg
      have HIN := Lib.hid hinf
      have HRG' := Lib.hid hrg'
      have HIN' := Lib.hid hinf'
      have HK := Lib.hid hkid
      have HRK := Lib.hid hrk
      have HBD := Lib.hid hbd
      have hj1 : (j : Int) < (n : Int) := by omega
      have hj0 : (0 : Int) ≤ (j : Int) := by omega
      clear hinf hrg hcl hcs hinf' hrg' hcl' hcs' hkid hrk hkn hkb hkd hkc hks hkn' hkb' hkd' hkc' hks' hbd
      have hbw : w.heap.size < wr.heap.size := by omega
      have hbw' : w.heap.size + 1 < wr.heap.size := by omega
      go_wp2
      refine wp_region_still_tail 10 (by kernel_rfl) (by kernel_rfl) ?_
      simp only [List.take_succ_cons, List.take_zero, List.drop_succ_cons, List.drop_zero]
      iterate 4 still_step
      refine still_mid rfl 35 _ rfl b2 (o2 + j * 22) rfl cs _ HRG.out undN rfl HIN.out ?_
      (try simp only [Act.put, List.setIfInBounds_toArray, List.set_cons_zero, List.set_cons_succ])
      iterate 4 still_step
      refine still_mid rfl 35 _ rfl b3 (o3 + j * 22) rfl cs' _ HRG'.out undN rfl HIN'.out ?_
      (try simp only [Act.put, List.setIfInBounds_toArray, List.set_cons_zero, List.set_cons_succ])
      refine wpStill_nil ?_
      change wpList _ _ _ _ _ wr.drew
      cases rk
      · go_wp2_with (go_at_call 40; refine HK.out.mono ?_; rintro e w2 ⟨rfl, hbe⟩)
        go_ret
        exact ⟨ret_bool (by rw [← HR.out]; exact (samesB_no hjl hjl' HRK.out).symm), HBD.out.trans (hbe.mono HBD.out.size)⟩
      · go_wp2_with (go_at_call 40; refine HK.out.mono ?_; rintro e w2 ⟨rfl, hbe⟩)
        go_roundw
        case measure => simp [intOf]; omega
        case rel =>
          exact ⟨j + 1, by omega, by go_num, (samesB_take_step hjl hjl' HAC.out).trans HRK.out, (hbe.cell (p := ⟨w.heap.size, 21, none⟩) (by simpa using hbw)).trans hc, (hbe.cell (p := ⟨w.heap.size + 1, 21, none⟩) (by simpa using hbw')).trans hc', by have := hbe.size; simp at this; omega, HBD.out.trans (hbe.mono HBD.out.size)⟩
    · obtain rfl : j = n := by omega
      go_wp2
      go_ret
      have h1 := HAC.out
      rw [show l.take j = l from by rw [← HN.out, List.take_length], show l'.take j = l' from by rw [← HN'.out, List.take_length]] at h1
      exact ⟨ret_bool (by rw [← HR.out, h1]), HBE.out⟩
end Go.Proofs.YtbiacjkkgddclaaGreat
