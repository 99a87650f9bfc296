/- tree.Map. Trees of tree.Map's making as trees in a zone; a content's parts. -/
import Derived.Test.YtbiacjkkgddclaaCyM
import Derived.Test.YtbiacjkkgddclaaMhRh
import Derived.Deep.Cut
import Derived.Test.YtbiacjkkgddclaaNwXc0PyPmPn
namespace Go.Proofs.Ytbiacjkkgddclaa
open Go.RowKit Go.Shelf

/-- a copy that was stored into a variable. -/
theorem FreshKids.row {w : World} {lo : Nat} {A : Option Addr} {c : Nat} {ks : List AT} (h : FreshKids w lo A c ks) (g : Nat) (hg : g < lo) (cs : Array Value) : FreshKids (w.setRow g cs) lo A c ks :=
  h.block (by simp) (fun b h1 _ _ => setRow_other _ _ _ _ (by omega))
theorem FreshKids.lo_ {w : World} {lo lo' : Nat} {A : Option Addr} {c : Nat} {ks : List AT} (h : FreshKids w lo A c ks) (hl : lo' ≤ lo) : FreshKids w lo' A c ks :=
  ⟨h.cap, h.max, h.at_, h.nodup, fun x hx => by obtain ⟨h1, h2⟩ := h.ok x hx; exact ⟨by omega, h2⟩⟩
theorem node_one (d : ND) (A : Option Addr) (n c : Nat) : (nodeA d A n c).all (·.oneCell') = true := all_oneCell_toArray (fun u hu => head_one d A n c u hu)

theorem eqFnil (w : World) : (binOp .eql 106 .nilFunc .nilFunc).run Try.prog w = .ok (.bool true) w := by kernel_rfl
theorem eqFfun (w : World) (fi : Nat) (caps : Array Value) : (binOp .eql 106 (.func (.func fi) #[] caps) .nilFunc).run Try.prog w = .ok (.bool false) w := by kernel_rfl

set_option maxRecDepth 100000 in
set_option maxHeartbeats 4000000 in
theorem mapNil_c (t : Tr) (w : World) (A : Option Addr) (c : Nat) (hd : t.d.ok) (hs : SlAt w w.heap.size A c t.l) (hz : t.size ≤ 1048576) :
    Calls Try.prog 39 #[nodeV t.d A t.l.length c, .nilFunc] w (CopyPost w t) := by
  obtain ⟨N, hN⟩ : ∃ N, N = nodeA t.d A t.l.length c := ⟨_, rfl⟩
  obtain ⟨W, hW⟩ : ∃ W, W = (w.alloc (.cells N 40)).alloc (.cells (nodeA zD none 0 0) 40) := ⟨_, rfl⟩
  have hbW : Below w.heap.size w W := by rw [hW]; exact ((Below.refl _ w).alloc (Nat.le_refl _) _).alloc (by simp) _
  have hWs : W.heap.size = w.heap.size + 2 := by rw [hW]; simp
  have hcp := copied_c t W A c hd ((hs.below hbW).more (by omega)) hz
  have hW0 : W.heap[w.heap.size]? = some (.cells N 40) := by rw [hW, heapOld _ _ _ (by simp)]; exact World.alloc_heap_new w _
  have hW1 : W.heap[w.heap.size + 1]? = some (.cells (nodeA zD none 0 0) 40) := by
    rw [hW]; have := World.alloc_heap_new (w.alloc (.cells N 40)) (.cells (nodeA zD none 0 0) 40); rwa [World.size_alloc] at this
  have hNs : N.size = 22 := by rw [hN]; rfl
  rw [nodeV, ← hN] at hcp ⊢
  have HCP := Lib.hid hcp
  have HW := Lib.hid hW
  have HW0 := Lib.hid hW0
  have HW1 := Lib.hid hW1
  have HWS := Lib.hid hWs
  have HNS := Lib.hid hNs
  have HBW := Lib.hid hbW
  clear hcp hW hW0 hW1 hWs hN hNs hbW
  go_enter Try.func39, Try.ntmps39
  go_wp2_with (first | (refine wpList_nodeVar rfl rfl (w.heap.size + 1) (by simp) ?_; change wpList _ _ _ _ _ ((w.alloc (.cells N 40)).alloc (.cells (nodeA zD none 0 0) 40)); rw [← HW.out]) | (refine wpList_row rfl 40 _ rfl w.heap.size rfl 40 N (0, 0) _ HW0.out undN rfl (infS HNS.out) ?_) | fail)
  refine HCP.out.mono ?_
  rintro e w2 ⟨A2, c2, ks, rfl, hk1, hk2, hb2⟩
  obtain ⟨N2, hN2⟩ : ∃ N2, N2 = nodeA t.d A2 t.l.length c2 := ⟨_, rfl⟩
  have hN2s : N2.size = 22 := by rw [hN2]; rfl
  have hN2o : N2.all (·.oneCell') = true := by rw [hN2]; exact node_one _ _ _ _
  have h20 : w2.heap[w.heap.size]? = some (.cells N 40) := (hb2.block _ (by have := HWS.out; omega)).trans HW0.out
  have h21 : w2.heap[w.heap.size + 1]? = some (.cells (nodeA zD none 0 0) 40) := (hb2.block _ (by have := HWS.out; omega)).trans HW1.out
  have h30 : (w2.setRow w.heap.size N2).heap[w.heap.size]? = some (.cells N2 40) := setRow_heap _ _ _ _ _ _ h20
  have h31 : (w2.setRow w.heap.size N2).heap[w.heap.size + 1]? = some (.cells (nodeA zD none 0 0) 40) := (setRow_other _ _ _ _ (by omega)).trans h21
  rw [nodeV, ← hN2]
  have H20 := Lib.hid h20
  have H30 := Lib.hid h30
  have H31 := Lib.hid h31
  have HN2 := Lib.hid hN2
  have HN2S := Lib.hid hN2s
  have HN2O := Lib.hid hN2o
  have HK2 := Lib.hid hk2
  have HB2 := Lib.hid hb2
  clear h20 h21 h30 h31 hN2 hN2s hN2o hk2 hb2 HCP HW0 HW1
  have efn := eqFnil
  go_wp2_with (first | (refine wpList_store_row rfl 40 _ _ rfl w.heap.size N2 rfl rfl 40 N H20.out (infS HN2S.out) (HNS.out.trans HN2S.out.symm) HN2O.out ?_) | (refine wpList_store_row rfl 40 _ _ rfl (w.heap.size + 1) N2 rfl rfl 40 (nodeA zD none 0 0) H31.out (infS HN2S.out) HN2S.out.symm HN2O.out ?_) | (refine wpList_row rfl 40 _ rfl w.heap.size rfl 40 N2 (0, 0) _ H30.out undN rfl (infS HN2S.out) ?_))
  refine bodyPost_ret (v := .agg N2) (results_cell_row rfl _ _ (w.heap.size + 1) 40 N2 (0, 0) _ rfl (setRow_heap _ _ _ _ _ _ H31.out) undN rfl (infS HN2S.out)) rfl ?_
  have hs2 := HWS.out
  refine ⟨A2, c2, ks, by rw [nodeV, HN2.out], hk1, ?_, ?_⟩
  · exact ((HK2.out.row _ (by omega) _).row _ (by omega) _).lo_ (by omega)
  · exact below_row (below_row (HBW.out.trans (HB2.out.mono HBW.out.size)) (Nat.le_refl _) _) (by omega) _

theorem MS.drewN {T : TypeId} {lo : Nat} {a : AT} {F : Tr → Tr} {J : Nat → World → Prop} {wr : World} {st : List (AT × Nat)} {g cap : Nat} (hJ : JOk lo J) (h : MS T lo a F J wr st g cap) (n : Nat) : MS T lo a F J (wr.drewN n) st g cap :=
  ⟨h.own, h.chain, h.root, h.nodup, h.sub, h.fresh, h.done.keep (fun _ _ hg => hg) (fun _ _ _ _ _ => rfl), h.off, h.glo, h.siz, h.all, hJ _ _ _ h.jj ⟨rfl, rfl, rfl, Nat.le_refl _, fun _ _ => rfl⟩, h.res, fun e => NodeG.keep (w := wr) (w' := wr.drewN n) (fun _ _ hg => hg) (fun _ _ _ _ _ => rfl) _ _ _ (h.fin e)⟩
def MapPost (lo : Nat) (r : Tr) (Jn : World → Prop) (e : Ending) (w' : World) : Prop := ∃ A c, e = .returned (nodeV r.d A r.l.length c) ∧ r.d.ok ∧ SlG w' (fun b _ => lo ≤ b ∧ b < w'.heap.size) A c r.l ∧ Jn w'
def MRel (lo : Nat) (a : AT) (F : Tr → Tr) (J : Nat → World → Prop) (gk : Nat) (v : Value) (wr : World) : Prop :=
  ∃ st g cap, gk = 2 * (rem st).length - st.length ∧ v = .slice (some ⟨g, 0, none⟩) st.length cap ∧ MS 108 lo a F J wr st g cap
theorem hmzown {T : TypeId} {lo : Nat} {a : AT} {F : Tr → Tr} {J : Nat → World → Prop} {wr : World} {x : AT} {k : Nat} {st : List (AT × Nat)} {g cap : Nat} (h : MS T lo a F J wr ((x, k) :: st) g cap) : (wr.setCell ⟨g, st.length * 2 + 1, none⟩ (.int .i64 ((k : Int) + 1))).ownsRow (lo + 2) T 2 (.slice (some ⟨g, 0, none⟩) (st.length + 1) cap) (st.length + 1) (((x, k + 1) :: st).reverse.flatMap mc) := by
  have h1 := h.own
  rw [List.reverse_cons] at h1
  have h2 := (h1.stored (st.length * 2 + 1) (.int .i64 ((k + 1 : Nat) : Int))).1
  have h3 := mc_next st.reverse x k
  rw [List.length_reverse] at h3
  rw [h3] at h2
  rw [List.reverse_cons]
  exact h2
theorem infoSt : (Try.prog.info? 108).map (fun i => (i.zero, i.size, i.bytes)) = some (some (.agg #[.pointer none, .int .i64 0]), 2, 16) := by kernel_rfl
theorem undSts : Try.prog.underlying 109 = some (.slice 108) := by kernel_rfl

set_option maxRecDepth 100000 in
set_option maxHeartbeats 4000000 in
theorem mapF_c (t : Tr) (w : World) (A : Option Addr) (c : Nat) (hd : t.d.ok) (hs : SlAt w w.heap.size A c t.l) (hz : t.size ≤ 1048576) (fi : Nat) (caps : Array Value) (F : Tr → Tr) (J : Nat → World → Prop) (hJ : JOk w.heap.size J) (hf : FOk Try.prog fi caps F w.heap.size J) (hen : ∀ args w, (callFunc fi args).run Try.prog w = .ok (.enter fi args) w) (h0 : J 0 w) :
    Calls Try.prog 39 #[nodeV t.d A t.l.length c, .func (.func fi) #[] caps] w (MapPost w.heap.size (mapT F t) (J t.size)) := by
  obtain ⟨N, hN⟩ : ∃ N, N = nodeA t.d A t.l.length c := ⟨_, rfl⟩
  obtain ⟨W, hW⟩ : ∃ W, W = (w.alloc (.cells N 40)).alloc (.cells (nodeA zD none 0 0) 40) := ⟨_, rfl⟩
  have hbW : Below w.heap.size w W := by rw [hW]; exact ((Below.refl _ w).alloc (Nat.le_refl _) _).alloc (by simp) _
  have hWs : W.heap.size = w.heap.size + 2 := by rw [hW]; simp
  have hcp := copied_c t W A c hd ((hs.below hbW).more (by omega)) hz
  have hW0 : W.heap[w.heap.size]? = some (.cells N 40) := by rw [hW, heapOld _ _ _ (by simp)]; exact World.alloc_heap_new w _
  have hW1 : W.heap[w.heap.size + 1]? = some (.cells (nodeA zD none 0 0) 40) := by
    rw [hW]; have := World.alloc_heap_new (w.alloc (.cells N 40)) (.cells (nodeA zD none 0 0) 40); rwa [World.size_alloc] at this
  have hNs : N.size = 22 := by rw [hN]; rfl
  rw [nodeV, ← hN] at hcp ⊢
  have HCP := Lib.hid hcp
  have HW := Lib.hid hW
  have HW0 := Lib.hid hW0
  have HW1 := Lib.hid hW1
  have HWS := Lib.hid hWs
  have HNS := Lib.hid hNs
  have HBW := Lib.hid hbW
  have HJ := Lib.hid hJ
  have HF := Lib.hid hf
  have HJ0 := Lib.hid h0
  have HEN := Lib.hid hen
  have HD := Lib.hid hd
  obtain ⟨ti, hti, hz0, hz1, hz2⟩ := info_parts infoSt
  clear hcp hW hW0 hW1 hWs hN hNs hbW hJ hf h0 hd hs hen
  go_enter Try.func39, Try.ntmps39
  go_wp2_with (first | (refine wpList_nodeVar rfl rfl (w.heap.size + 1) (by simp) ?_; change wpList _ _ _ _ _ ((w.alloc (.cells N 40)).alloc (.cells (nodeA zD none 0 0) 40)); rw [← HW.out]) | (refine wpList_row rfl 40 _ rfl w.heap.size rfl 40 N (0, 0) _ HW0.out undN rfl (infS HNS.out) ?_) | fail)
  refine HCP.out.mono ?_
  rintro e w2 ⟨A2, c2, ks, rfl, hk1, hk2, hb2⟩
  obtain ⟨N2, hN2⟩ : ∃ N2, N2 = nodeA t.d A2 t.l.length c2 := ⟨_, rfl⟩
  have hN2s : N2.size = 22 := by rw [hN2]; rfl
  have hN2o : N2.all (·.oneCell') = true := by rw [hN2]; exact node_one _ _ _ _
  have h20 : w2.heap[w.heap.size]? = some (.cells N 40) := (hb2.block _ (by have := HWS.out; omega)).trans HW0.out
  have h21 : w2.heap[w.heap.size + 1]? = some (.cells (nodeA zD none 0 0) 40) := (hb2.block _ (by have := HWS.out; omega)).trans HW1.out
  have h30 : (w2.setRow w.heap.size N2).heap[w.heap.size]? = some (.cells N2 40) := setRow_heap _ _ _ _ _ _ h20
  have h31 : (w2.setRow w.heap.size N2).heap[w.heap.size + 1]? = some (.cells (nodeA zD none 0 0) 40) := (setRow_other _ _ _ _ (by omega)).trans h21
  rw [nodeV, ← hN2]
  have H20 := Lib.hid h20
  have H30 := Lib.hid h30
  have H31 := Lib.hid h31
  have HN2 := Lib.hid hN2
  have HN2S := Lib.hid hN2s
  have HN2O := Lib.hid hN2o
  have HK1 := Lib.hid hk1
  have HK2 := Lib.hid hk2
  have HB2 := Lib.hid hb2
  clear h20 h21 h30 h31 hN2 hN2s hN2o hk1 hk2 hb2 HCP HW0 HW1
  have efn := fun w => eqFfun w fi caps
  go_wp2_with (first | (refine wpList_store_row rfl 40 _ _ rfl w.heap.size N2 rfl rfl 40 N H20.out (infS HN2S.out) (HNS.out.trans HN2S.out.symm) HN2O.out ?_) | fail)
  clear efn
  obtain ⟨a, ha⟩ : ∃ a, a = AT.mk w.heap.size 0 t.d ks := ⟨_, rfl⟩
  have htr : a.tr = t := by rw [ha, AT.tr_mk, HK1.out, ← Tr.eta]
  have HA := Lib.hid ha
  have HTR := Lib.hid htr
  clear ha htr
  go_loopg [5] (2 * t.size - 1) (fun gk v wr => MRel w.heap.size a F J gk v wr)
  case atStart =>
    have hst := MS.start (T := 108) (F := F) HJ.out HK1.out (by rw [HWS.out] at HK2; exact HK2.out) HD.out H20.out (by have := H31.out; rwa [setRow_other _ _ _ _ (by omega)] at this) rfl (by have := HB2.out.size; have := HWS.out; omega) (HJ.out _ _ _ HJ0.out (HBW.out.trans (HB2.out.mono HBW.out.size)))
    rw [← HA.out, ← HN2.out] at hst
    refine ⟨[(a, 0)], w2.heap.size, 1, ?_, rfl, hst⟩
    have e : rem [(a, 0)] = a.post := by rw [HA.out]; simp only [rem, List.drop_zero, AT.l, AT.post_mk]
    rw [e, AT.post_len, HTR.out]
    simp only [List.length_cons, List.length_nil, Nat.zero_add]
  case round =>
    obtain ⟨st, g, cap, rfl, rfl, hms⟩ := hrel
    cases st with
    | nil =>
      obtain ⟨hg1, hg2, A', c', hg3, hg4⟩ := (hms.fin rfl).open_
      rw [HTR.out] at hg2 hg3 hg4
      have hab : a.b = w.heap.size ∧ a.o = 0 := by rw [HA.out]; exact ⟨rfl, rfl⟩
      rw [hab.1, hab.2] at hg3
      obtain ⟨cs, e1, e2, e3⟩ := hg3.range (fun _ _ => rfl)
      have hinf := infN
      rw [← e2] at hinf
      have hcs : cs.toArray.size = 22 := by simp [e2]
      have hone : cs.toArray.all (·.oneCell') = true := by rw [e1]; exact node_one _ _ _ _
      obtain ⟨Z, hZ1, hZ2⟩ := hms.res
      have HRG := Lib.hid e3
      have HIN := Lib.hid hinf
      have HCS := Lib.hid hcs
      have HON := Lib.hid hone
      have HZ1 := Lib.hid hZ1
      have HZ2 := Lib.hid hZ2
      have HMS := Lib.hid hms
      have HG2 := Lib.hid hg2
      have HG4 := Lib.hid hg4
      have HE1 := Lib.hid e1
      clear hms hg1 hg2 hg3 hg4 hab e1 e2 e3 hinf hcs hone hZ1 hZ2
      simp only [List.length_nil]
      go_wp2_with (first | (refine wpList_mid rfl 40 _ rfl w.heap.size 0 rfl cs _ HRG.out undN rfl HIN.out ?_) | (refine wpList_store_row rfl 40 _ _ rfl (w.heap.size + 1) cs.toArray rfl rfl 40 Z HZ2.out (infS HCS.out) (HZ1.out.trans HCS.out.symm) HON.out ?_))
      refine bodyPost_ret (v := .agg cs.toArray) (results_cell_row rfl _ _ (w.heap.size + 1) 40 cs.toArray (0, 0) _ rfl (setRow_heap _ _ _ _ _ _ HZ2.out) undN rfl (infS HCS.out)) rfl ?_
      refine ⟨A', c', by rw [nodeV, ← HE1.out], HG2.out, ?_, ?_⟩
      · refine HG4.out.keep (fun b o hg => ?_) (fun b o hg j hj => ?_)
        · obtain ⟨y, hy, rfl, rfl⟩ := hg.blocks
          have := HMS.out.off y hy
          exact ⟨this.2.2.1, by simpa using this.2.2.2.1⟩
        · obtain ⟨y, hy, rfl, rfl⟩ := hg.blocks
          exact World.cell?_of_block (a := ⟨y.b, y.o + j, none⟩) (setRow_other _ _ _ _ (HMS.out.off y hy).2.1)
      · have hj := HMS.out.jj
        simp only [rem, List.length_nil, Nat.sub_zero, HTR.out] at hj
        exact HJ.out _ _ _ hj (below_row (Below.refl _ _) (by omega) _)
    | cons xk st =>
      obtain ⟨x, k⟩ := xk
      have hxr : x ∈ rem ((x, k) :: st) := by simp [rem]
      obtain ⟨f1, f2, f3, f4, f5, fA, fc, f6, f7, f8, f9⟩ := hms.fresh x hxr
      have hown := hms.own
      rw [List.reverse_cons] at hown
      have hc0 : wr.cell? ⟨g, st.length * 2, none⟩ = some (.pointer (some ⟨x.b, x.o, none⟩)) := by
        have := own_cell hown rfl _ _ (mc_top st.reverse (x, k)).1
        rwa [List.length_reverse] at this
      have hc1 : wr.cell? ⟨g, st.length * 2 + 1, none⟩ = some (.int .i64 k) := by
        have := own_cell hown rfl _ _ (mc_top st.reverse (x, k)).2
        rwa [List.length_reverse] at this
      have h21 : wr.cell? ⟨x.b, x.o + 21, none⟩ = some (.slice fA x.l.length fc) := f6 21 (by decide)
      have hlm : st.length + 1 ≤ 1048576 := by
        have h1 := rem_len ((x, k) :: st)
        have h2 := hms.all
        rw [HTR.out] at h2
        simp only [List.length_cons] at h1
        omega
      have hnl : x.l.length ≤ 1048576 := by
        have h1 := AT.len_size x
        have h2 := AT.sub_size a x (hms.sub x hxr)
        rw [HTR.out] at h2
        omega
      obtain ⟨n, hn⟩ : ∃ n, n = x.l.length := ⟨_, rfl⟩
      rw [← hn] at h21 hnl
      have HN' := Lib.hid hn
      have HMS := Lib.hid hms
      have hcap : st.length + 1 ≤ cap := by
        rcases hms.own.2 with ⟨h1, _⟩ | ⟨_, cap', _, hv, _, _, h4, _⟩
        · cases h1
        · simp only [Value.slice.injEq] at hv
          obtain ⟨-, -, rfl⟩ := hv
          simpa using h4
      have hlm' : (st.length : Int) + 1 ≤ 1048576 := by omega
      have hgl : g < wr.heap.size := by
        obtain ⟨-, h⟩ := hms.own.lt g rfl
        exact h
      simp only [List.length_cons]
      have HF9 := Lib.hid f9
      have hfc : n ≤ fc := by rw [hn]; exact f7
      have hgfr : wr.frozen? ⟨g, st.length * 2 + 1, none⟩ = false := hms.own.frozenAt _
      clear hms hxr f1 f3 f4 f5 f6 f7 f9 hown hn
      go_wp2
      by_cases hkn : k < n
      · have hki : (k : Int) < (n : Int) := by omega
        have hki0 : (0 : Int) ≤ (k : Int) := by omega
        have hkb : k ≤ 1048576 := by omega
        have hkx : k < x.l.length := by rw [← HN'.out]; exact hkn
        obtain ⟨b', hA, hads⟩ : ∃ b', fA = some ⟨b', 0, none⟩ ∧ ∀ i (h : i < x.l.length), x.l[i].ad = (b', i * 22) := by
          rcases HF9.out with h | ⟨b', h1, h2⟩
          · rw [h] at hkx; simp at hkx
          · exact ⟨b', h1, h2⟩
        subst hA
        have hyad : x.l[k].b = b' ∧ x.l[k].o = k * 22 := by have := hads k hkx; simpa [AT.ad] using this
        have HY := Lib.hid hyad
        clear hads hyad
        go_quiet (fail)
        go_wp2
        go_quiet (fail)
        go_upto_region 10 with (fail)
        generalize hwz : wr.drewN _ = wz
        have hmz : MS 108 w.heap.size a F J wz ((x, k) :: st) g cap := by rw [← hwz]; exact HMS.out.drewN HJ.out _
        have hzs : wz.heap.size = wr.heap.size := by rw [← hwz]; rfl
        have HMZ := Lib.hid hmz
        have HZS := Lib.hid hzs
        clear hmz hzs hwz hc0 hc1 h21 hgfr
        have hst := hmzown HMZ.out
        have hnew : ∀ (j : Nat) (u : Value), ([.pointer (some ⟨b', k * 22, none⟩), .int .i64 0] : List Value)[j]? = some u → ((wz.setCell ⟨g, st.length * 2 + 1, none⟩ (.int .i64 ((k : Int) + 1))).alloc (.cells #[.pointer (some ⟨b', k * 22, none⟩), .int .i64 0] 108)).cell? ((⟨wz.heap.size, 0, none⟩ : Addr).add j) = some u := fun j u hu => by
          have hb : ((wz.setCell ⟨g, st.length * 2 + 1, none⟩ (.int .i64 ((k : Int) + 1))).alloc (.cells #[.pointer (some ⟨b', k * 22, none⟩), .int .i64 0] 108)).heap[wz.heap.size]? = some (.cells #[.pointer (some ⟨b', k * 22, none⟩), .int .i64 0] 108) := by
            have := World.alloc_heap_new (wz.setCell ⟨g, st.length * 2 + 1, none⟩ (.int .i64 ((k : Int) + 1))) (.cells #[.pointer (some ⟨b', k * 22, none⟩), .int .i64 0] 108)
            rwa [size_setCell] at this
          exact World.news_of_block hb j u hu
        have hone : ∀ u ∈ ([.pointer (some ⟨b', k * 22, none⟩), .int .i64 0] : List Value), u.oneCell' = true := by simp [Value.oneCell']
        have hown2 : ((wz.setCell ⟨g, st.length * 2 + 1, none⟩ (.int .i64 ((k : Int) + 1))).alloc (.cells #[.pointer (some ⟨b', k * 22, none⟩), .int .i64 0] 108)).ownsRow (w.heap.size + 2) 108 2 (.slice (some ⟨g, 0, none⟩) (st.length + 1) cap) (st.length + 1) (((x, k + 1) :: st).reverse.flatMap mc) := hst.alloc _
        have HNE := Lib.hid hnew
        have HON := Lib.hid hone
        have HOW := Lib.hid hown2
        clear hst hnew hone hown2
        go_wp2_with (at_builtin; refine wpList_append_lies _ rfl _ _ 109 rfl (w.heap.size + 2) 108 ti _ 2 16 undSts hti hz0 hz1 hz2 rfl (by decide) _ (st.length + 1) _ rfl HOW.out ⟨wz.heap.size, 0, none⟩ 1 1 [.pointer (some ⟨b', k * 22, none⟩), .int .i64 0] rfl rfl HNE.out HON.out (by omega) (by unfold maxLen; omega) (by omega) (by have := HMZ.out.siz; simp; omega) (wz.heap.size + 1) (by simp) ?_; intro g2 cap2 w3 hown3 hgrow hat hlt3; have HO3 := Lib.hid hown3; have HG3 := Lib.hid hgrow; have HAT := Lib.hid hat; clear hown3 hgrow hat)
        have hrp := rem_push (st := st) hkx
        go_roundg (2 * (rem ((x.l[k], 0) :: (x, k + 1) :: st)).length - ((x.l[k], 0) :: (x, k + 1) :: st).length)
        case measure =>
          have h1 := rem_len ((x.l[k], 0) :: (x, k + 1) :: st)
          simp only [List.length_cons] at h1 ⊢
          rw [hrp] at h1 ⊢
          omega
        case rel =>
          refine ⟨(x.l[k], 0) :: (x, k + 1) :: st, g2, cap2, rfl, rfl, ?_⟩
          have ek : (Value.int .i64 ((k : Int) + 1)) = .int .i64 ((k + 1 : Nat) : Int) := by go_num
          have hg3 := HG3.out
          rw [ek] at hg3
          refine MS.push HJ.out HMZ.out hkx hg3 HAT.out ?_
          have e2 : mc (x.l[k], 0) = [.pointer (some ⟨b', k * 22, none⟩), .int .i64 0] := by simp only [mc, HY.out.1, HY.out.2]; rfl
          rw [e2]; exact HO3.out
      · have hki : ¬ (k : Int) < (n : Int) := by omega
        have hki2 : decide ((k : Int) < (n : Int)) = false := by simpa using hki
        go_quiet (fail)
        go_wp2
        generalize hwz : wr.drewN _ = wz
        have hmz : MS 108 w.heap.size a F J wz.drew ((x, k) :: st) g cap := by rw [← hwz]; exact (HMS.out.drewN HJ.out _).drewN HJ.out 1
        have hcz : wz.drew.cell? ⟨g, st.length * 2, none⟩ = some (.pointer (some ⟨x.b, x.o, none⟩)) := by rw [← hwz]; exact hc0
        clear hwz hc0 hc1 h21 hgfr hki hki2
        obtain ⟨cs, e2, e3, hcal⟩ := MS.prep HJ.out HF.out hmz (by rw [← HN'.out]; omega) (by rw [← HN'.out]; exact hnl) _ hcz
        have hinf := infN
        rw [← e2] at hinf
        have HCA := Lib.hid hcal
        clear hcal e2
        refine wp_region_held_drew (S := fun w' => w'.cell? ⟨g, st.length * 2, none⟩ = some (.pointer (some ⟨x.b, x.o, none⟩))) (by kernel_rfl) hcz (fun hHeld => ?_)
        refine wpAnyH_take (i := 0) (oi := { dst := some 60, op := Op.move (Operand.tmp 6), type := 110, pos := "tree.go:148", after := #[], guard := none }) (v := ?_) rfl (by kernel_rfl) (by kernel_rfl) (by kernel_rfl) (fun _ _ _ h => h) (Or.inl ⟨by rfl, ?_⟩) (by assumption) ?_
        rotate_left
        · intro w hSw
          (try dsimp only at hSw)
          go_simp
          try with_reducible rfl
        simp only [Act.put, List.setIfInBounds_toArray, List.set_cons_zero, List.set_cons_succ]
        refine wpAnyH_take (i := 1) (oi := { dst := some 61, op := Op.nilCheck (Operand.tmp 60), type := 0, pos := "tree.go:148", after := #[{ on := 0, ground := Ground.data }], guard := none }) (v := ?_) rfl (by kernel_rfl) (by kernel_rfl) (by kernel_rfl) (fun _ _ _ h => h) (Or.inl ⟨by rfl, ?_⟩) (by assumption) ?_
        rotate_left
        · intro w hSw
          (try dsimp only at hSw)
          go_simp
          try with_reducible rfl
        simp only [Act.put, List.setIfInBounds_toArray, List.set_cons_zero, List.set_cons_succ]
        refine wpAnyH_take (i := 2) (oi := { dst := some 62, op := Op.fieldAddr 108 (Operand.tmp 61) 0, type := 0, pos := "tree.go:148", after := #[{ on := 1, ground := Ground.data }], guard := none }) (v := ?_) rfl (by kernel_rfl) (by kernel_rfl) (by kernel_rfl) (fun _ _ _ h => h) (Or.inl ⟨by rfl, ?_⟩) (by assumption) ?_
        rotate_left
        · intro w hSw
          (try dsimp only at hSw)
          go_simp
          try with_reducible rfl
        simp only [Act.put, List.setIfInBounds_toArray, List.set_cons_zero, List.set_cons_succ]
        refine wpAnyH_take (i := 3) (oi := { dst := some 63, op := Op.load 92 (Operand.tmp 62), type := 92, pos := "tree.go:148", after := #[{ on := 2, ground := Ground.data }], guard := none }) (v := ?_) rfl (by kernel_rfl) (by kernel_rfl) (by kernel_rfl) (fun _ _ _ h => h) (Or.inl ⟨by rfl, ?_⟩) (by assumption) ?_
        rotate_left
        · intro w hSw
          (try dsimp only at hSw)
          go_simp
          try with_reducible rfl
        simp only [Act.put, List.setIfInBounds_toArray, List.set_cons_zero, List.set_cons_succ]
        refine wpAnyH_take (i := 4) (oi := { dst := some 64, op := Op.move (Operand.tmp 1), type := 106, pos := "tree.go:148", after := #[], guard := none }) (v := ?_) rfl (by kernel_rfl) (by kernel_rfl) (by kernel_rfl) (fun _ _ _ h => h) (Or.inl ⟨by rfl, ?_⟩) (by assumption) ?_
        rotate_left
        · intro w hSw
          (try dsimp only at hSw)
          go_simp
          try with_reducible rfl
        simp only [Act.put, List.setIfInBounds_toArray, List.set_cons_zero, List.set_cons_succ]
        refine wpAnyH_take (i := 5) (oi := { dst := some 65, op := Op.move (Operand.tmp 6), type := 110, pos := "tree.go:148", after := #[], guard := none }) (v := ?_) rfl (by kernel_rfl) (by kernel_rfl) (by kernel_rfl) (fun _ _ _ h => h) (Or.inl ⟨by rfl, ?_⟩) (by assumption) ?_
        rotate_left
        · intro w hSw
          (try dsimp only at hSw)
          go_simp
          try with_reducible rfl
        simp only [Act.put, List.setIfInBounds_toArray, List.set_cons_zero, List.set_cons_succ]
        refine wpAnyH_take (i := 6) (oi := { dst := some 66, op := Op.nilCheck (Operand.tmp 65), type := 0, pos := "tree.go:148", after := #[{ on := 5, ground := Ground.data }], guard := none }) (v := ?_) rfl (by kernel_rfl) (by kernel_rfl) (by kernel_rfl) (fun _ _ _ h => h) (Or.inl ⟨by rfl, ?_⟩) (by assumption) ?_
        rotate_left
        · intro w hSw
          (try dsimp only at hSw)
          go_simp
          try with_reducible rfl
        simp only [Act.put, List.setIfInBounds_toArray, List.set_cons_zero, List.set_cons_succ]
        refine wpAnyH_take (i := 7) (oi := { dst := some 67, op := Op.fieldAddr 108 (Operand.tmp 66) 0, type := 0, pos := "tree.go:148", after := #[{ on := 6, ground := Ground.data }], guard := none }) (v := ?_) rfl (by kernel_rfl) (by kernel_rfl) (by kernel_rfl) (fun _ _ _ h => h) (Or.inl ⟨by rfl, ?_⟩) (by assumption) ?_
        rotate_left
        · intro w hSw
          (try dsimp only at hSw)
          go_simp
          try with_reducible rfl
        simp only [Act.put, List.setIfInBounds_toArray, List.set_cons_zero, List.set_cons_succ]
        refine wpAnyH_take (i := 8) (oi := { dst := some 68, op := Op.load 92 (Operand.tmp 67), type := 92, pos := "tree.go:148", after := #[{ on := 7, ground := Ground.data }], guard := none }) (v := ?_) rfl (by kernel_rfl) (by kernel_rfl) (by kernel_rfl) (fun _ _ _ h => h) (Or.inl ⟨by rfl, ?_⟩) (by assumption) ?_
        rotate_left
        · intro w hSw
          (try dsimp only at hSw)
          go_simp
          try with_reducible rfl
        simp only [Act.put, List.setIfInBounds_toArray, List.set_cons_zero, List.set_cons_succ]
        refine wpAnyH_take (i := 9) (oi := { dst := some 69, op := Op.nilCheck (Operand.tmp 68), type := 0, pos := "tree.go:148", after := #[{ on := 8, ground := Ground.data }], guard := none }) (v := ?_) rfl (by kernel_rfl) (by kernel_rfl) (by kernel_rfl) (fun _ _ _ h => h) (Or.inl ⟨by rfl, ?_⟩) (by assumption) ?_
        rotate_left
        · intro w hSw
          (try dsimp only at hSw)
          go_simp
          try with_reducible rfl
        simp only [Act.put, List.setIfInBounds_toArray, List.set_cons_zero, List.set_cons_succ]
        refine wpAnyH_loadRow (i := 10) (o := { dst := some 70, op := Op.load 40 (Operand.tmp 69), type := 40, pos := "tree.go:148", after := #[{ on := 9, ground := Ground.data }], guard := none }) (by kernel_rfl) rfl rfl 40 (Operand.tmp 69) rfl x.b x.o rfl cs _ e3 undN rfl hinf hcz (fun hHeld => ?_)
        simp only [Act.put, List.setIfInBounds_toArray, List.set_cons_zero, List.set_cons_succ]
        refine wpAnyH_ready (rs := [11]) (by kernel_rfl) (by simp) ?_
        refine AllReadyH.cons (o := { dst := some 71, op := Op.call { callee := Callee.value (Operand.tmp 64), args := #[Operand.tmp 70], argTypes := #[40] }, type := 40, pos := "tree.go:148", after := #[{ on := 4, ground := Ground.data }, { on := 10, ground := Ground.data }], guard := none }) rfl (fun K hK => ?_) AllReadyH.nil
        have hen := HEN.out
        go_simp
        clear hen
        refine HCA.out.mono ?_
        rintro e w3 ⟨cells, rfl, hz3, ho3, ht3, hs3, hs4, hm3⟩
        try go_simp
        refine hK.out _ _ hs3 (fun hHeld => ?_)
        clear hK K
        try simp only [Act.put, List.setIfInBounds_toArray, List.set_cons_zero, List.set_cons_succ]
        refine wpAnyH_take (i := 12) (oi := { dst := some 72, op := Op.nilCheck (Operand.tmp 63), type := 0, pos := "tree.go:148", after := #[{ on := 3, ground := Ground.data }, { on := 0, ground := Ground.phase }, { on := 1, ground := Ground.phase }, { on := 2, ground := Ground.phase }, { on := 3, ground := Ground.phase }, { on := 4, ground := Ground.phase }, { on := 5, ground := Ground.phase }, { on := 6, ground := Ground.phase }, { on := 7, ground := Ground.phase }, { on := 8, ground := Ground.phase }, { on := 9, ground := Ground.phase }, { on := 10, ground := Ground.phase }, { on := 11, ground := Ground.phase }], guard := none }) (v := ?_) rfl (by kernel_rfl) (by kernel_rfl) (by kernel_rfl) (fun _ _ _ h => h) (Or.inl ⟨by rfl, ?_⟩) (by assumption) ?_
        rotate_left
        · intro w hSw
          (try dsimp only at hSw)
          go_simp
          try with_reducible rfl
        simp only [Act.put, List.setIfInBounds_toArray, List.set_cons_zero, List.set_cons_succ]
        have HM3 := Lib.hid hm3
        have hinf3 : (Try.prog.info? 40).map (·.size) = some cells.size := infS hz3
        refine wpAnyH_storeRow (i := 13) (o := { dst := none, op := Op.store 40 (Operand.tmp 72) (Operand.tmp 71), type := 0, pos := "tree.go:148", after := #[{ on := 12, ground := Ground.data }, { on := 11, ground := Ground.data }, { on := 11, ground := Ground.chain }, { on := 0, ground := Ground.phase }, { on := 1, ground := Ground.phase }, { on := 2, ground := Ground.phase }, { on := 3, ground := Ground.phase }, { on := 4, ground := Ground.phase }, { on := 5, ground := Ground.phase }, { on := 6, ground := Ground.phase }, { on := 7, ground := Ground.phase }, { on := 8, ground := Ground.phase }, { on := 9, ground := Ground.phase }, { on := 10, ground := Ground.phase }, { on := 11, ground := Ground.phase }], guard := none }) (by kernel_rfl) rfl rfl 40 (Operand.tmp 72) (Operand.tmp 71) rfl x.b x.o cells rfl rfl (by rw [hz3]; exact ht3) hinf3 ho3 hs4 (fun hHeld => ?_)
        simp only [Act.put]
        refine wpAnyH_done (by kernel_rfl) ?_ _
        clear hm3 hinf3 hs3 hs4 ht3 hz3 ho3
        go_wp2
        go_roundg (2 * (rem st).length - st.length)
        case measure =>
          have h1 := rem_len st
          rw [rem_pop (by rw [← HN'.out]; omega)]
          simp only [List.length_cons]
          omega
        case rel => exact ⟨st, g, cap, rfl, rfl, HM3.out⟩
end Go.Proofs.Ytbiacjkkgddclaa
namespace Go.Proofs.Ytbiacjkkgddclaa
set_option linter.unusedSimpArgs false
set_option linter.unusedVariables false
open Go Go.RowKit Go.Shelf

theorem fresh_nodeG {w : World} {lo : Nat} (x : AT) : (∀ y ∈ x.all, FreshAt w lo y) → NodeG w (fun b _ => lo ≤ b ∧ b < w.heap.size) x.b x.o x.tr := by
  induction x using AT.ind with
  | _ b o d l ih =>
    intro h
    obtain ⟨h1, h2, h3, h4, h5, A, c, h6, h7, h8, h9⟩ := h (.mk b o d l) (by rw [AT.all_mk]; simp)
    have htr : (AT.mk b o d l).tr = .mk d (l.map AT.tr) := by simp [AT.tr, AT.trs_map]
    rw [htr]
    have hlen : (Tr.mk d (l.map AT.tr)).l.length = l.length := by simp [Tr.l]
    refine NodeG.mk ⟨h1, h2⟩ h4 (A := A) (c := c) (by rw [hlen]; exact h6) ⟨by rw [hlen]; exact h7, h8, ?_⟩
    rcases h9 with h9 | ⟨b', hA, h9⟩
    · exact .inl (by have : l = [] := h9; simp [Tr.l, this])
    · refine .inr ⟨b', 0, hA, KidsG.of (fun i hi => ?_)⟩
      have hi' : i < l.length := by rw [hlen] at hi; exact hi
      have e : (Tr.mk d (l.map AT.tr)).l[i] = l[i].tr := by simp [Tr.l]
      have ha : l[i].ad = (b', i * 22) := h9 i hi'
      have e2 : l[i].b = b' ∧ l[i].o = i * 22 := by simpa [AT.ad] using ha
      have := ih l[i] (List.getElem_mem hi') (fun y hy => h y (by rw [AT.all_mk]; exact List.mem_cons_of_mem _ (List.mem_flatMap.2 ⟨_, List.getElem_mem hi', hy⟩)))
      rw [e, Nat.zero_add, ← e2.1, ← e2.2]; exact this
theorem FreshKids.slG {w : World} {lo : Nat} {A : Option Addr} {c : Nat} {ks : List AT} (h : FreshKids w lo A c ks) : SlG w (fun b _ => lo ≤ b ∧ b < w.heap.size) A c (ks.map AT.tr) := by
  refine ⟨by rw [List.length_map]; exact h.cap, h.max, ?_⟩
  rcases h.at_ with rfl | ⟨b', hA, h9⟩
  · exact .inl rfl
  · refine .inr ⟨b', 0, hA, KidsG.of (fun i hi => ?_)⟩
    have hi' : i < ks.length := by simpa using hi
    have ha : ks[i].ad = (b', i * 22) := h9 i hi'
    have e2 : ks[i].b = b' ∧ ks[i].o = i * 22 := by simpa [AT.ad] using ha
    have := fresh_nodeG (w := w) (lo := lo) ks[i] (fun y hy => h.ok y (List.mem_flatMap.2 ⟨_, List.getElem_mem hi', hy⟩))
    simp only [List.getElem_map]
    rw [Nat.zero_add, ← e2.1, ← e2.2]; exact this
theorem contA_parts (x : Ct) (A : Option Addr) (c : Nat) : (contA x A c).toList = x.head ++ (nodeA x.t.d A x.t.l.length c).toList := rfl
end Go.Proofs.Ytbiacjkkgddclaa
