/- tree.copied. -/
import Derived.Test.YtbiacjkkgddclaaGreatH4H8Cl
import Derived.Test.YtbiacjkkgddclaaGreatPfMgKzG3
import Derived.Test.YtbiacjkkgddclaaGreatNwXc0PyPmPn
namespace Go.Proofs.YtbiacjkkgddclaaGreat
open Go.RowKit Go.Shelf

theorem infoPt : (Tryz.prog.info? 106).map (fun i => (i.zero, i.size, i.bytes)) = some (some (.pointer none), 1, 8) := by kernel_rfl
theorem undPts : Tryz.prog.underlying 149 = some (.slice 106) := by kernel_rfl
/-- the zero node. -/
def zD : ND := ⟨0, ⟨0, 0, 0, ByteArray.mk #[], false, 0⟩, ByteArray.mk #[], ⟨0, 0, 0, 0, false, false⟩, ⟨0, 0, 0, 0, false, false⟩, 0⟩
/-- where copied stands between two nodes. -/
structure CS (W0 : World) (lo : Nat) (t : Tr) (wr : World) (a : PT) (S : List It) (g cap : Nat) : Prop where
  own : wr.ownsRow (lo + 2) 106 1 (.slice (some ⟨g, 0, none⟩) S.length cap) S.length (S.map iptr)
  cop : Cop W0 lo t wr a
  off : ∀ x ∈ a.its, x.b ≠ g ∧ x.b ≠ lo + 1
  glo : lo + 2 ≤ g
  bel : Below lo W0 wr
  siz : lo + 3 ≤ wr.heap.size
  res : wr.heap[lo + 1]? = some (.cells (nodeA zD none 0 0) 35)
def CRel (W0 : World) (lo : Nat) (t : Tr) (gk : Nat) (v : Value) (wr : World) : Prop :=
  ∃ a S g cap, gk = iwait S ∧ iwait S ≤ t.size ∧ v = .slice (some ⟨g, 0, none⟩) S.length cap ∧ CS W0 lo t wr a S g cap ∧ (∀ x ∈ a.its, x.p ≠ [] → x ∈ S) ∧ (∀ x ∈ S, x ∈ a.its ∧ x.ks = []) ∧ (S.map It.ad).Nodup
/-- where the pushing of the nodes below one stands. -/
def KRel (W0 : World) (lo : Nat) (t : Tr) (a : PT) (S kids : List It) (b o : Nat) (A : Option Addr) (n c : Nat) (gk : Nat) (v i : Value) (wr : World) : Prop :=
  ∃ k g cap N, k ≤ n ∧ gk = n - k ∧ i = .int .i64 (k : Nat) ∧ N = (S ++ ipend (kids.take k)).length ∧ v = .slice (some ⟨g, 0, none⟩) N cap ∧ CS W0 lo t wr a (S ++ ipend (kids.take k)) g cap ∧ wr.cell? ⟨b, o + 21, none⟩ = some (.slice A n c)
/-- a node is taken off the stack and has its new list. -/
theorem CS.pop {W0 wr w2 : World} {lo : Nat} {t : Tr} {a : PT} {S : List It} {x : It} {g cap kb : Nat} {a' : PT} {v : Value} (h : CS W0 lo t wr a (S ++ [x]) g cap) (hx : x ∈ a.its) (hb : Below wr.heap.size wr w2) (hkb : wr.heap.size ≤ kb) (hs : Stepped W0 lo t (w2.setCell ⟨x.b, x.o + 21, none⟩ v) a x kb a') : CS W0 lo t (w2.setCell ⟨x.b, x.o + 21, none⟩ v) a' S g cap := by
  have hg : g < wr.heap.size := by
    rcases h.own.2 with ⟨h1, _⟩ | ⟨g', cap', cur, hv, _, h2, _⟩
    · cases h1
    · simp only [Value.slice.injEq, Option.some.injEq, Addr.mk.injEq, and_true] at hv
      obtain ⟨rfl, -⟩ := hv
      exact (Array.getElem?_eq_some_iff.1 h2).1
  have hxo := h.cop.ok x hx
  have hxf := h.off x hx
  have hsz := h.siz
  refine ⟨?_, hs.cop, ?_, h.glo, (h.bel.trans (hb.mono (by omega))).setCell (by simpa using hxo.1) _, by rw [size_setCell]; have := hb.size; omega, ?_⟩
  · rcases h.own.2 with ⟨h1, _⟩ | ⟨g', cap', cur, hv, h2, h3, h4, h5, h6, h7⟩
    · cases h1
    · simp only [Value.slice.injEq, Option.some.injEq, Addr.mk.injEq, and_true] at hv
      obtain ⟨rfl, -, rfl⟩ := hv
      refine ⟨by simp, .inr ⟨g, cap, cur, rfl, h2, ?_, by simp at h4; omega, h5, h6, ?_⟩⟩
      · rw [heap_setCell_other _ _ _ _ (fun e => hxf.1 e.symm), hb.block g hg]; exact h3
      · have e : cur.toList.take (S.length * 1) = (cur.toList.take ((S ++ [x]).length * 1)).take (S.length * 1) := by rw [List.take_take]; congr 1; simp
        rw [e, h7, List.map_append, Nat.mul_one, List.take_left' (by simp)]
  · intro i hi
    rcases hs.blocks i hi with e | ⟨j, hj, e⟩
    · rw [e]; omega
    · rw [e]; exact h.off j hj
  · rw [heap_setCell_other _ _ _ _ (fun e => hxf.2 e.symm), hb.block (lo + 1) (by omega)]; exact h.res
/-- an empty list is forgotten. -/
theorem CS.nil {W0 wr : World} {lo : Nat} {t : Tr} {a : PT} {S : List It} {g cap : Nat} (h : CS W0 lo t wr a S g cap) {y : It} (hy : y ∈ a.its) (hp : y.p = []) (hk : y.ks = []) : CS W0 lo t (wr.setCell ⟨y.b, y.o + 21, none⟩ (.slice none 0 0)) a S g cap := by
  have hyf := h.off y hy
  refine ⟨⟨h.own.1, ?_⟩, h.cop.nil hy hp hk, h.off, h.glo, h.bel.setCell (by simpa using (h.cop.ok y hy).1) _, by rw [size_setCell]; exact h.siz, ?_⟩
  · rcases h.own.2 with h1 | ⟨g', cap', cur, hv, h2, h3, h4⟩
    · exact .inl h1
    · refine .inr ⟨g', cap', cur, hv, h2, ?_, h4⟩
      simp only [Value.slice.injEq, Option.some.injEq, Addr.mk.injEq, and_true] at hv
      obtain ⟨rfl, -⟩ := hv
      rw [heap_setCell_other _ _ _ _ (fun e => hyf.1 e.symm)]; exact h3
  · rw [heap_setCell_other _ _ _ _ (fun e => hyf.2 e.symm)]; exact h.res
/-- a node is laid on the stack. -/
theorem CS.push {W0 wr w1 : World} {lo : Nat} {t : Tr} {a : PT} {S : List It} {g cap g2 cap2 : Nat} {o : Obj} (h : CS W0 lo t wr a S g cap) {y : It} (hgr : (wr.alloc o).grownBy w1 (some g)) (hat : (some g : Option Nat) = some g2 ∨ g2 = wr.heap.size + 1)
    (hown : w1.ownsRow (lo + 2) 106 1 (.slice (some ⟨g2, 0, none⟩) (S.length + 1) cap2) (S.length + 1) (S.map iptr ++ [iptr y])) : CS W0 lo t w1 a (S ++ [y]) g2 cap2 ∧ (∀ x ∈ a.its, w1.heap[x.b]? = wr.heap[x.b]?) := by
  have hblk : ∀ b, b < wr.heap.size → b ≠ g → w1.heap[b]? = wr.heap[b]? := fun b hb hn =>
    (hgr.block b (by simp; omega) (fun e => hn (Option.some.inj e))).trans (heapOld wr o b hb)
  have hx : ∀ x ∈ a.its, w1.heap[x.b]? = wr.heap[x.b]? := fun x hx => hblk x.b (h.cop.ok x hx).2.1 (h.off x hx).1
  have hsz : wr.heap.size + 1 ≤ w1.heap.size := by have := hgr.size; simp at this; omega
  have hg := h.glo
  have hs3 := h.siz
  refine ⟨⟨by rw [List.map_append, List.length_append]; exact hown, h.cop.block (by omega) hx, ?_, ?_, ?_, by omega, ?_⟩, hx⟩
  · intro x hxx
    have h1 := (h.cop.ok x hxx).2.1
    refine ⟨?_, (h.off x hxx).2⟩
    rcases hat with e | e
    · have := Option.some.inj e; rw [← this]; exact (h.off x hxx).1
    · omega
  · rcases hat with e | e
    · have := Option.some.inj e; omega
    · omega
  · exact (h.bel.alloc (by omega) o).grown hgr (by simp; omega) (fun j e => by have := Option.some.inj e; omega)
  · exact (hblk (lo + 1) (by omega) (by omega)).trans h.res
/-- all nodes below one have been looked at. -/
theorem rel_end {W0 wr w3 w4 : World} {lo : Nat} {t : Tr} {a a' : PT} {S : List It} {x : It} {g cap g2 cap2 kb : Nat} (h : CS W0 lo t wr a (S ++ [x]) g cap) (hs : Stepped W0 lo t w3 a x kb a') (hkb : wr.heap.size ≤ kb) (hw : iwait (S ++ [x]) ≤ t.size) (hp : ∀ y ∈ a.its, y.p ≠ [] → y ∈ S ++ [x]) (hi : ∀ y ∈ S ++ [x], y ∈ a.its ∧ y.ks = []) (hn : ((S ++ [x]).map It.ad).Nodup)
    (h' : CS W0 lo t w4 a' (S ++ ipend (itsOf kb 0 x.p)) g2 cap2) : CRel W0 lo t (iwait (S ++ ipend (itsOf kb 0 x.p))) (.slice (some ⟨g2, 0, none⟩) (S ++ ipend (itsOf kb 0 x.p)).length cap2) w4 ∧ iwait (S ++ ipend (itsOf kb 0 x.p)) < iwait (S ++ [x]) := by
  have hwt : iwait (S ++ ipend (itsOf kb 0 x.p)) < iwait (S ++ [x]) := by
    rw [iwait_append, iwait_append]
    have h1 := iwait_pend (itsOf kb 0 x.p)
    rw [iwait_kids] at h1
    have h2 : iwait [x] = Tr.sizes x.p + 1 := by simp [iwait]
    omega
  rw [List.map_append, List.nodup_append] at hn
  obtain ⟨n1, n2, n3⟩ := hn
  have hne : ∀ y ∈ S, y.ad ≠ x.ad := fun y hy e => n3 y.ad (List.mem_map.2 ⟨y, hy, rfl⟩) x.ad (by simp) e
  refine ⟨⟨a', S ++ ipend (itsOf kb 0 x.p), g2, cap2, rfl, by omega, rfl, h', ?_, ?_, ?_⟩, hwt⟩
  · intro y hy hyp
    rcases hs.pend y hy hyp with h1 | ⟨h1, h2⟩
    · exact List.mem_append_right _ (List.mem_filter.2 ⟨h1, by simpa using hyp⟩)
    · rcases List.mem_append.1 (hp y h1 hyp) with h3 | h3
      · exact List.mem_append_left _ h3
      · simp only [List.mem_singleton] at h3; exact absurd (by rw [h3]) h2
  · intro y hy
    rcases List.mem_append.1 hy with h1 | h1
    · exact ⟨hs.stay y (hi y (List.mem_append_left _ h1)).1 (hne y h1), (hi y (List.mem_append_left _ h1)).2⟩
    · have h2 := (List.mem_filter.1 h1).1
      obtain ⟨i, hi', rfl⟩ := itsOf_mem _ _ _ y h2
      exact ⟨hs.kids _ h2, rfl⟩
  · rw [List.map_append, List.nodup_append]
    refine ⟨n1, ((List.filter_sublist).map It.ad).nodup (itsOf_nodup kb 0 x.p), fun q hq r hr e => ?_⟩
    subst e
    obtain ⟨y, hy, rfl⟩ := List.mem_map.1 hq
    obtain ⟨z, hz, he⟩ := List.mem_map.1 hr
    obtain ⟨i, hi', rfl⟩ := itsOf_mem _ _ _ z (List.mem_filter.1 hz).1
    have h1 := (h.cop.ok y (hi y (List.mem_append_left _ hy)).1).2.1
    simp only [It.ad, Prod.mk.injEq] at he
    omega
def CopyPost (w : World) (t : Tr) (e : Ending) (w' : World) : Prop := ∃ A c ks, e = .returned (nodeV t.d A t.l.length c) ∧ ks.map AT.tr = t.l ∧ FreshKids w' w.heap.size A c ks ∧ Below w.heap.size w w'
theorem sizes_len : ∀ l : List Tr, l.length ≤ Tr.sizes l
  | [] => by simp
  | t :: ts => by have := sizes_len ts; have := t.size_pos; simp only [List.length_cons, Tr.sizes]; omega
theorem iflat_top (S : List It) (x : It) : ((S ++ [x]).map iptr)[S.length]? = some (iptr x) := by simp

set_option maxRecDepth 100000 in
set_option maxHeartbeats 4000000 in
theorem copied_c (t : Tr) (w : World) (A : Option Addr) (c : Nat) (hd : t.d.ok) (hs : SlAt w w.heap.size A c t.l) (hz : t.size ≤ 1048576) :
    Calls Tryz.prog 77 #[nodeV t.d A t.l.length c] w (CopyPost w t) := by
  obtain ⟨N, hN⟩ : ∃ N, N = nodeA t.d A t.l.length c := ⟨_, rfl⟩
  rw [nodeV, ← hN]
  have HN := Lib.hid hN
  have HD := Lib.hid hd
  have HS := Lib.hid hs
  obtain ⟨ti, hti, hz0, hz1, hz2⟩ := info_parts infoPt
  clear hN hd hs
  go_enter Tryz.func77, Tryz.ntmps77
  go_wp2_with (refine wpList_nodeVar rfl rfl (w.heap.size + 1) (by simp) ?_)
  go_loopg [3] t.size (fun gk v wr => CRel w w.heap.size t gk v wr)
  case atStart =>
    have hb0 : ∀ o1 o2 : Obj, (((w.alloc (.cells N 35)).alloc o1).alloc o2).heap[w.heap.size]? = some (.cells N 35) := fun o1 o2 => by
      rw [heapOld _ _ _ (by simp; omega), heapOld _ _ _ (by simp)]; exact World.alloc_heap_new w _
    refine ⟨.mk w.heap.size 0 t.d t.l [], [⟨w.heap.size, 0, t.d, t.l, []⟩], w.heap.size + 2, 1, ?_, ?_, rfl, ⟨?_, ⟨?_, rfl, ?_, ?_⟩, ?_, Nat.le_refl _, ?_, ?_, ?_⟩, ?_, ?_, ?_⟩
    · have e : t.size = Tr.sizes t.l + 1 := by cases t; simp [Tr.size, Tr.l]
      simp [iwait]; omega
    · have e : t.size = Tr.sizes t.l + 1 := by cases t; simp [Tr.size, Tr.l]
      simp [iwait]; omega
    · refine ⟨rfl, .inr ⟨w.heap.size + 2, 1, #[.pointer (some ⟨w.heap.size, 0, none⟩)], rfl, Nat.le_refl _, ?_, Nat.le_refl _, by unfold maxLen; omega, rfl, rfl⟩⟩
      have h1 := World.alloc_heap_new ((w.alloc (.cells N 35)).alloc (.cells (nodeA zD none 0 0) 35)) (.cells #[.pointer (some ⟨w.heap.size, 0, none⟩)] 106)
      simp only [World.size_alloc] at h1
      exact h1
    · rw [PT.tr_mk, List.map_nil, List.append_nil, ← Tr.eta]
    · simp [PT.adrs_mk]
    · intro x hx
      rw [PT.its_mk] at hx
      simp only [List.map_nil, List.flatMap_nil, List.mem_singleton] at hx
      subst hx
      refine ⟨Nat.le_refl _, by simp; omega, rfl, HD.out, fun o => by unfold World.frozen?; rw [hb0]; simp, A, c, fun j hj => ?_, ?_, HS.out.2.1, ?_, .inl rfl⟩
      · rw [cell_of_row _ _ _ _ _ _ (hb0 _ _), HN.out, Nat.zero_add]; rfl
      · simpa using HS.out.1
      · exact HS.out.2.2
    · intro x hx
      rw [PT.its_mk] at hx
      simp only [List.map_nil, List.flatMap_nil, List.mem_singleton] at hx
      subst hx
      exact ⟨by simp, by simp⟩
    · exact (((Below.refl _ w).alloc (Nat.le_refl _) _).alloc (by simp) _).alloc (by simp; omega) _
    · simp
    · have h1 := World.alloc_heap_new (w.alloc (.cells N 35)) (.cells (nodeA zD none 0 0) 35)
      simp only [World.size_alloc] at h1
      rw [heapOld _ _ _ (by simp)]
      exact h1
    · intro x hx _
      rw [PT.its_mk] at hx
      simpa using hx
    · intro x hx
      simp only [List.mem_singleton] at hx
      subst hx
      exact ⟨by rw [PT.its_mk]; simp, rfl⟩
    · simp
  case round =>
    obtain ⟨a, S, g, cap, rfl, hwt, rfl, hcs, hpend, hin, hnd⟩ := hrel
    rcases List.eq_nil_or_concat S with rfl | ⟨S, x, rfl⟩
    · obtain ⟨A', c', ks, hn1, hn2, hn3, hn4, hfar0⟩ := hcs.cop.done (w.heap.size + 1) (fun x hx => Classical.byContradiction fun e => by cases hpend x hx e) (fun x hx => (hcs.off x hx).2)
      obtain ⟨cs, e1, e2, e3⟩ := hn1.range (fun _ _ => rfl)
      have hinf := infN
      rw [← e2] at hinf
      have hinf2 := infN
      rw [show (22 : Nat) = cs.toArray.size from by simp [e2]] at hinf2
      have hone : cs.toArray.all (·.oneCell') = true := by
        refine all_oneCell_toArray (fun u hu => head_one t.d A' t.l.length c' u ?_)
        have : cs = t.d.head ++ [.slice A' t.l.length c'] := List.toArray_inj e1
        rw [← this]; exact hu
      have hres := hcs.res
      have hfar : ∀ x ∈ ks.flatMap AT.all, x.b ≠ w.heap.size + 1 := hfar0
      have HFR := Lib.hid hn4
      have HK3 := Lib.hid hn3
      have HE1 := Lib.hid e1
      have HE2 := Lib.hid e2
      have HRG := Lib.hid e3
      have HIN := Lib.hid hinf
      have HIN2 := Lib.hid hinf2
      have HCS := Lib.hid hcs
      have HON := Lib.hid hone
      have HRE := Lib.hid hres
      have HFA := Lib.hid hfar
      simp only [List.length_nil]
      clear hcs hpend hin hnd hwt hn1 hn2 hn3 hn4 e1 e2 e3 hinf hinf2 hone hres hfar hfar0
      go_wp2_with (first | (refine wpList_mid rfl 35 _ rfl w.heap.size 0 rfl cs _ HRG.out undN rfl HIN.out ?_) | (refine wpList_store_row rfl 35 _ _ rfl (w.heap.size + 1) cs.toArray rfl rfl 35 (nodeA zD none 0 0) HRE.out HIN2.out (by have := HE2.out; simp [this]; rfl) HON.out ?_))
      refine bodyPost_ret (v := .agg cs.toArray) (results_cell_row rfl _ _ (w.heap.size + 1) 35 cs.toArray (0, 0) _ rfl (setRow_heap _ _ _ _ _ _ HRE.out) undN rfl HIN2.out) rfl ?_
      refine ⟨A', c', ks, by rw [nodeV, ← HE1.out], HK3.out, ?_, ?_⟩
      · refine HFR.out.block (by simp) (fun b h1 h2 ⟨x, hx, hxb⟩ => setRow_other _ _ _ _ ?_)
        rw [← hxb]; exact HFA.out x hx
      · have h1 := HCS.out.bel
        refine ⟨h1.os, h1.tape, h1.output, by simpa using h1.size, fun b hb => ?_⟩
        rw [setRow_other _ _ _ _ (by omega)]; exact h1.block b hb
    · rw [List.concat_eq_append] at *
      have hc0 : wr.cell? ⟨g, S.length, none⟩ = some (.pointer (some ⟨x.b, x.o, none⟩)) := own_cell hcs.own rfl _ _ (iflat_top S x)
      have hlen : (S ++ [x]).length = S.length + 1 := by simp
      have hlm : S.length + 1 ≤ t.size := by have := iwait_len (S ++ [x]); rw [hlen] at this; omega
      obtain ⟨hxin, hxk⟩ := hin x (by simp)
      obtain ⟨hx1, hx2, hx3, hx4, hx5, A2, c2, hx6, hx7, hx8, hx9, hx10⟩ := hcs.cop.ok x hxin
      rw [hxk] at hx6 hx7
      simp only [List.length_nil, Nat.add_zero] at hx6 hx7
      have h21 : wr.cell? ⟨x.b, x.o + 21, none⟩ = some (.slice A2 x.p.length c2) := hx6 21 (by decide)
      have hsl : SlAt wr w.heap.size A2 c2 x.p := by
        refine ⟨hx7, hx8, ?_⟩
        rcases hx9 with h | ⟨b', o', hA, hk⟩
        · exact .inl h
        · exact .inr ⟨b', o', hA, KidsAt.of (fun i hi => NodeAt.keep (fun p hp => hcs.bel.cell hp) _ _ _ (hk.get i hi))⟩
      obtain ⟨n, hn⟩ : ∃ n, n = x.p.length := ⟨_, rfl⟩
      have hnz : n ≤ 1048576 := by
        have h1 := sizes_len x.p
        have h2 : iwait [x] = Tr.sizes x.p + 1 := by simp [iwait]
        rw [iwait_append] at hwt
        omega
      have hcl := clone_c wr w.heap.size A2 c2 x.p hsl (by omega)
      obtain ⟨g0, hg0, hcap1⟩ : ∃ g0, g0 = g ∧ S.length + 1 ≤ cap := ⟨g, rfl, by
        rcases hcs.own.2 with ⟨h1, _⟩ | ⟨_, cap', _, hv, _, _, h4, _⟩
        · cases h1
        · simp only [Value.slice.injEq] at hv
          obtain ⟨-, -, rfl⟩ := hv
          rw [hlen] at h4; exact h4⟩
      rw [← hn] at h21 hcl
      have HCL := Lib.hid hcl
      have HCS := Lib.hid hcs
      have HN2 := Lib.hid hn
      have HP := Lib.hid hpend
      have HI := Lib.hid hin
      have HND := Lib.hid hnd
      have HWT := Lib.hid hwt
      have HX := Lib.hid (show x ∈ a.its ∧ x.ks = [] from ⟨hxin, hxk⟩)
      have hlm' : (S.length : Int) + 1 ≤ 1099511627776 := by omega
      have hxb : x.b < wr.heap.size := hx2
      have hfr : wr.frozen? ⟨x.b, x.o + 21, none⟩ = false := hx5 _
      rw [hlen]
      clear hcs hpend hin hnd hwt hx1 hx3 hx4 hx5 hx6 hx7 hx8 hx9 hx10 hsl hcl hn hxin hxk hlen hg0
      go_wp2_with (fail)
      refine HCL.out.mono ?_
      rintro e w2 ⟨v2, xs2, rfl, hown2, hrow2, hb2⟩
      obtain ⟨A3, c3, kb, hv2, hc3, hc3m, hkb, hA3⟩ : ∃ A3 c3 kb, v2 = .slice A3 n c3 ∧ n ≤ c3 ∧ c3 ≤ 9223372036854775807 ∧ wr.heap.size ≤ kb ∧ ((x.p = [] ∧ xs2 = []) ∨ (A3 = some ⟨kb, 0, none⟩ ∧ kb < w2.heap.size ∧ (∀ o, w2.frozen? ⟨kb, o, none⟩ = false) ∧ ∀ j u, xs2[j]? = some u → w2.cell? ⟨kb, j, none⟩ = some u)) := by
        rw [← HN2.out] at hown2
        rcases hown2.2 with ⟨rfl, h0⟩ | ⟨kb, c3, cur, rfl, h1, h2, h3, h4, h5, h6⟩
        · have hp0 : x.p = [] := List.eq_nil_of_length_eq_zero (by rw [← HN2.out, h0])
          refine ⟨none, 0, wr.heap.size, by rw [h0], by omega, by omega, Nat.le_refl _, .inl ⟨hp0, ?_⟩⟩
          exact List.eq_nil_of_length_eq_zero (by rw [hown2.1, h0])
        · refine ⟨some ⟨kb, 0, none⟩, c3, kb, rfl, h3, by unfold maxLen at h4; exact h4, h1, .inr ⟨rfl, (Array.getElem?_eq_some_iff.1 h2).1, fun o => by simp [World.frozen?, h2], fun j u hu => own_cell hown2 rfl j u hu⟩⟩
      have h21b : w2.cell? ⟨x.b, x.o + 21, none⟩ = some (.slice A2 n c2) := (hb2.cell (p := ⟨x.b, x.o + 21, none⟩) hxb).trans h21
      have hfr2 : w2.frozen? ⟨x.b, x.o + 21, none⟩ = false := (hb2.frozen (p := ⟨x.b, x.o + 21, none⟩) hxb).trans hfr
      have hst := pt_step HCS.out.cop HCS.out.bel HX.out.1 HX.out.2 (A' := A3) (cap := c3) (kb := kb) (by have := HCS.out.siz; omega) hb2 hrow2 (by rw [← HN2.out]; exact hc3) hc3m hkb hA3
      rw [← HN2.out] at hst
      subst hv2
      have HST := Lib.hid hst
      have HB2 := Lib.hid hb2
      have HA3 := Lib.hid hA3
      clear hst hb2 hA3 hown2 hrow2 hc0 h21 hfr HCL
      go_wp2
      obtain ⟨wq, rfl⟩ : ∃ wq, wq = wr := ⟨wr, rfl⟩
      obtain ⟨kids, hkids⟩ : ∃ kids, kids = itsOf kb 0 x.p := ⟨_, rfl⟩
      obtain ⟨a', ha'⟩ : ∃ a', a' = a.sub x.b x.o (kidsOf kb 0 x.p) := ⟨_, rfl⟩
      rw [← ha'] at HST
      have hself : ∃ z ∈ a'.its, z.b = x.b := by rw [ha']; exact ⟨_, PT.self_sub x.b x.o (kidsOf kb 0 x.p) a x HX.out.1 rfl HCS.out.cop.nodup, rfl⟩
      have HSE := Lib.hid hself
      have hpop := CS.pop HCS.out HX.out.1 HB2.out hkb HST.out
      have hc21 : (w2.setCell ⟨x.b, x.o + 21, none⟩ (.slice A3 n c3)).cell? ⟨x.b, x.o + 21, none⟩ = some (.slice A3 n c3) := World.cell?_setCell_same _ _ _ h21b
      have HKI := Lib.hid hkids
      have HPO := Lib.hid hpop
      have H21 := Lib.hid hc21
      have hkl : kids.length = n := by rw [hkids, itsOf_len, ← HN2.out]
      have HKL := Lib.hid hkl
      clear hkids ha' hpop hc21 h21b hfr2 hkl hself
      go_loopg [3, 34] n (fun gk v i wr => KRel w w.heap.size t a' S kids x.b x.o A3 n c3 gk v i wr)
      case atStart =>
        refine ⟨0, g, cap, S.length, Nat.zero_le _, rfl, rfl, by simp [ipend], rfl, ?_, H21.out⟩
        have h1 := HPO.out
        simp only [List.take_zero, ipend, List.filter_nil, List.append_nil]
        exact h1
      case round =>
        obtain ⟨k, g', cap', N', hk, hgk, rfl, hN', rfl, hcs', hl21⟩ := hrel
        have HCS' := Lib.hid hcs'
        have HGK := Lib.hid hgk
        have HN' := Lib.hid hN'
        by_cases hlt : k < n
        · have hkk : k < kids.length := by rw [HKL.out]; exact hlt
          have hkp : k < x.p.length := by rw [← HN2.out]; exact hlt
          have hA3' : A3 = some ⟨kb, 0, none⟩ := by
            rcases HA3.out with ⟨h, _⟩ | ⟨h, _⟩
            · rw [h] at hkp; simp at hkp
            · exact h
          subst hA3'
          obtain ⟨y, hy⟩ : ∃ y, y = kids[k] := ⟨_, rfl⟩
          have hye : y = ⟨kb, k * 22, x.p[k].d, x.p[k].l, []⟩ := by
            rw [hy]
            have h1 : ∀ (l : List It) (h : k < l.length), l = itsOf kb 0 x.p → l[k] = ⟨kb, k * 22, x.p[k].d, x.p[k].l, []⟩ := by
              intro l h e; subst e
              rw [itsOf_get kb 0 x.p k hkp h, Nat.zero_add]
            exact h1 kids hkk HKI.out
          have hyin : y ∈ a'.its := HST.out.kids y (by rw [← HKI.out, hy]; exact List.getElem_mem hkk)
          obtain ⟨hy1, hy2, hy3, hy4, hy5, A4, c4, hy6, hy7, hy8, -, -⟩ := hcs'.cop.ok y hyin
          have hky21 : wr.cell? ⟨kb, k * 22 + 21, none⟩ = some (.slice A4 x.p[k].l.length c4) := by
            have := hy6 21 (by decide)
            rw [hye] at this
            exact this
          have hkfr : wr.frozen? ⟨kb, k * 22 + 21, none⟩ = false := by
            have := hy5 (k * 22 + 21)
            rw [hye] at this
            exact this
          have hkbl : kb < wr.heap.size := by rw [hye] at hy2; exact hy2
          have hyp : y.p = x.p[k].l := by rw [hye]
          obtain ⟨m, hm⟩ : ∃ m, m = x.p[k].l.length := ⟨_, rfl⟩
          rw [← hm] at hky21
          have hc4 : c4 ≤ 9223372036854775807 := hy8
          have hmc : m ≤ c4 := by rw [hye] at hy7; simpa [← hm] using hy7
          have hpt := ipend_take hkk
          rw [← hy] at hpt
          have hj1 : (k : Int) < (n : Int) := by omega
          have hj0 : (0 : Int) ≤ (k : Int) := by omega
          have HY := Lib.hid hye
          have HYI := Lib.hid hyin
          have HPT := Lib.hid hpt
          have HM := Lib.hid hm
          have HYP := Lib.hid hyp
          have hxlt : x.b < wr.heap.size := by omega
          have hNM : N' + 1 ≤ 1099511627776 := by
            have h1 : (ipend (kids.take k)).length ≤ kids.length := Nat.le_trans (List.length_filter_le _ _) (by rw [List.length_take]; omega)
            have h2 := HN'.out
            have h3 := HKL.out
            rw [List.length_append] at h2
            omega
          clear hcs' hgk hN' hy hye hyin hy1 hy2 hy3 hy4 hy5 hy6 hy7 hy8 hpt hyp hm
          by_cases hm0 : m = 0
          · subst hm0
            go_wp2
            go_roundg (n - (k + 1))
            case measure => have := HGK.out; omega
            case rel =>
              have hp0 : y.p = [] := by rw [HYP.out]; exact List.eq_nil_of_length_eq_zero HM.out.symm
              refine ⟨k + 1, g', cap', N', by omega, rfl, by go_num, ?_, rfl, ?_, ?_⟩
              · rw [HPT.out, if_pos hp0, List.append_nil]; exact HN'.out
              · rw [HPT.out, if_pos hp0, List.append_nil]
                have h1 := HCS'.out.nil HYI.out hp0 (by rw [HY.out])
                rw [HY.out] at h1
                exact h1
              · rw [World.cell?_setCell_other _ _ _ _ (fun e => by simp only [Addr.mk.injEq] at e; omega)]
                exact hl21
          · have hmp : 0 < m := by omega
            have HM0 := Lib.hid hm0
            clear hm0
            obtain ⟨cs, hcs⟩ : ∃ cs : Array Value, cs = #[.pointer (some ⟨kb, k * 22, none⟩)] := ⟨_, rfl⟩
            have hnew : ∀ (j : Nat) (u : Value), ([.pointer (some ⟨kb, k * 22, none⟩)] : List Value)[j]? = some u → (wr.alloc (.cells cs 106)).cell? ((⟨wr.heap.size, 0, none⟩ : Addr).add j) = some u :=
              fun j u hu => World.news_of_block (w := wr.alloc (.cells cs 106)) (World.alloc_heap_new wr (.cells cs 106)) j u (by rw [hcs]; exact hu)
            have hone : ∀ u ∈ ([.pointer (some ⟨kb, k * 22, none⟩)] : List Value), u.oneCell' = true := by simp [Value.oneCell']
            have HON := Lib.hid hone
            have hown'' : (wr.alloc (.cells cs 106)).ownsRow (w.heap.size + 2) 106 1 (.slice (some ⟨g', 0, none⟩) N' cap') N' ((S ++ ipend (kids.take k)).map iptr) := by
              have h1 := HCS'.out.own
              rw [← HN'.out] at h1
              exact h1.alloc (.cells cs 106)
            subst hcs
            have HNE := Lib.hid hnew
            have HOW := Lib.hid hown''
            clear hnew hown'' hone
            go_wp2_with (at_builtin; refine wpList_append_lies _ rfl _ _ 149 rfl (w.heap.size + 2) 106 ti _ 1 8 undPts hti hz0 hz1 hz2 rfl (by decide) _ N' _ rfl HOW.out ⟨wr.heap.size, 0, none⟩ 1 1 [.pointer (some ⟨kb, k * 22, none⟩)] rfl rfl HNE.out HON.out (by omega) (by unfold maxLen; omega) (by omega) (by have := HCS'.out.siz; simp; omega) (wr.heap.size + 1) (by simp) ?_; intro g2 cap2 w1 hown1 hgrow hat hlt2; have HO1 := Lib.hid hown1; have HG1 := Lib.hid hgrow; have HAT := Lib.hid hat; clear hown1 hgrow hat)
            go_roundg (n - (k + 1))
            case measure => have := HGK.out; omega
            case rel =>
              have hp0 : y.p ≠ [] := by rw [HYP.out]; intro e; have := HM.out; rw [e] at this; exact HM0.out this
              have hyc : iptr y = .pointer (some ⟨kb, k * 22, none⟩) := by rw [HY.out]; rfl
              have hpu := CS.push HCS'.out (y := y) HG1.out (by
                rcases HAT.out with h | h
                · exact .inl h
                · exact .inr h) (cap2 := cap2) (by rw [← HN'.out, hyc]; exact HO1.out)
              refine ⟨k + 1, g2, cap2, N' + 1, by omega, rfl, by go_num, ?_, rfl, ?_, ?_⟩
              · rw [HPT.out, if_neg hp0, ← List.append_assoc, List.length_append, ← HN'.out]; rfl
              · rw [HPT.out, if_neg hp0, ← List.append_assoc]; exact hpu.1
              · obtain ⟨z, hz', hze⟩ := HSE.out
                have hbk := hpu.2 z hz'
                rw [hze] at hbk
                exact (World.cell?_of_block (a := ⟨x.b, x.o + 21, none⟩) hbk).trans hl21
        · obtain rfl : k = n := by omega
          clear hcs' hgk hN'
          go_wp2
          have hend := fun h' => rel_end (w4 := wr) (g2 := g') (cap2 := cap') HCS.out HST.out hkb HWT.out HP.out HI.out HND.out h'
          rw [← HKI.out] at hend
          have hcs2 := HCS'.out
          rw [show kids.take k = kids from by rw [← HKL.out]; exact List.take_length] at hcs2
          obtain ⟨he1, he2⟩ := hend hcs2
          go_roundg (iwait (S ++ ipend kids))
          case measure => exact he2
          case rel =>
            have hNe : N' = (S ++ ipend kids).length := by rw [HN'.out, show kids.take k = kids from by rw [← HKL.out]; exact List.take_length]
            subst hNe
            exact he1
end Go.Proofs.YtbiacjkkgddclaaGreat
