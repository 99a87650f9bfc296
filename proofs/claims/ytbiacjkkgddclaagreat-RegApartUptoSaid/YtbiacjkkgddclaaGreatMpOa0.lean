/- tree.Map. Trees of tree.Map's making as trees in a zone; a content's parts. -/
import Derived.Test.YtbiacjkkgddclaaGreatCyM
import Derived.Test.YtbiacjkkgddclaaGreatMhRh
import Derived.Deep.Cut
import Derived.Test.YtbiacjkkgddclaaGreatNwXc0PyPmPn
namespace Go.Proofs.YtbiacjkkgddclaaGreat
open Go.RowKit Go.Shelf

/-- a copy that was stored into a variable. -/
theorem FreshKids.row {w : World} {lo : Nat} {A : Option Addr} {c : Nat} {ks : List AT} (h : FreshKids w lo A c ks) (g : Nat) (hg : g < lo) (cs : Array Value) : FreshKids (w.setRow g cs) lo A c ks :=
  h.block (by simp) (fun b h1 _ _ => setRow_other _ _ _ _ (by omega))
theorem FreshKids.lo_ {w : World} {lo lo' : Nat} {A : Option Addr} {c : Nat} {ks : List AT} (h : FreshKids w lo A c ks) (hl : lo' ≤ lo) : FreshKids w lo' A c ks :=
  ⟨h.cap, h.max, h.at_, h.nodup, fun x hx => by obtain ⟨h1, h2⟩ := h.ok x hx; exact ⟨by omega, h2⟩⟩
theorem node_one (d : ND) (A : Option Addr) (n c : Nat) : (nodeA d A n c).all (·.oneCell') = true := all_oneCell_toArray (fun u hu => head_one d A n c u hu)

theorem eqFnil (w : World) : (binOp .eql 119 .nilFunc .nilFunc).run Tryz.prog w = .ok (.bool true) w := by kernel_rfl
set_option maxRecDepth 100000 in
set_option maxHeartbeats 4000000 in
theorem mapNil_c (t : Tr) (w : World) (A : Option Addr) (c : Nat) (hd : t.d.ok) (hs : SlAt w w.heap.size A c t.l) (hz : t.size ≤ 1048576) :
    Calls Tryz.prog 58 #[nodeV t.d A t.l.length c, .nilFunc] w (CopyPost w t) := by
  obtain ⟨N, hN⟩ : ∃ N, N = nodeA t.d A t.l.length c := ⟨_, rfl⟩
  obtain ⟨W, hW⟩ : ∃ W, W = (w.alloc (.cells N 35)).alloc (.cells (nodeA zD none 0 0) 35) := ⟨_, rfl⟩
  have hbW : Below w.heap.size w W := by rw [hW]; exact ((Below.refl _ w).alloc (Nat.le_refl _) _).alloc (by simp) _
  have hWs : W.heap.size = w.heap.size + 2 := by rw [hW]; simp
  have hcp := copied_c t W A c hd ((hs.below hbW).more (by omega)) hz
  have hW0 : W.heap[w.heap.size]? = some (.cells N 35) := by rw [hW, heapOld _ _ _ (by simp)]; exact World.alloc_heap_new w _
  have hW1 : W.heap[w.heap.size + 1]? = some (.cells (nodeA zD none 0 0) 35) := by
    rw [hW]; have := World.alloc_heap_new (w.alloc (.cells N 35)) (.cells (nodeA zD none 0 0) 35); rwa [World.size_alloc] at this
  have hNs : N.size = 22 := by rw [hN]; rfl
  rw [nodeV, ← hN] at hcp ⊢
  have HCP := Lib.hid hcp
  have HW := Lib.hid hW
  have HW0 := Lib.hid hW0
  have HW1 := Lib.hid hW1
  have HWS := Lib.hid hWs
  have HNS := Lib.hid hNs
  have HBW := Lib.hid hbW
  clear hcp hW hW0 hW1 hWs hN hNs hbW
  go_enter Tryz.func58, Tryz.ntmps58
  go_wp2_with (first | (refine wpList_nodeVar rfl rfl (w.heap.size + 1) (by simp) ?_; change wpList _ _ _ _ _ ((w.alloc (.cells N 35)).alloc (.cells (nodeA zD none 0 0) 35)); rw [← HW.out]) | (refine wpList_row rfl 35 _ rfl w.heap.size rfl 35 N (0, 0) _ HW0.out undN rfl (infS HNS.out) ?_) | fail)
  refine HCP.out.mono ?_
  rintro e w2 ⟨A2, c2, ks, rfl, hk1, hk2, hb2⟩
  obtain ⟨N2, hN2⟩ : ∃ N2, N2 = nodeA t.d A2 t.l.length c2 := ⟨_, rfl⟩
  have hN2s : N2.size = 22 := by rw [hN2]; rfl
  have hN2o : N2.all (·.oneCell') = true := by rw [hN2]; exact node_one _ _ _ _
  have h20 : w2.heap[w.heap.size]? = some (.cells N 35) := (hb2.block _ (by have := HWS.out; omega)).trans HW0.out
  have h21 : w2.heap[w.heap.size + 1]? = some (.cells (nodeA zD none 0 0) 35) := (hb2.block _ (by have := HWS.out; omega)).trans HW1.out
  have h30 : (w2.setRow w.heap.size N2).heap[w.heap.size]? = some (.cells N2 35) := setRow_heap _ _ _ _ _ _ h20
  have h31 : (w2.setRow w.heap.size N2).heap[w.heap.size + 1]? = some (.cells (nodeA zD none 0 0) 35) := (setRow_other _ _ _ _ (by omega)).trans h21
  rw [nodeV, ← hN2]
  have H20 := Lib.hid h20
  have H30 := Lib.hid h30
  have H31 := Lib.hid h31
  have HN2 := Lib.hid hN2
  have HN2S := Lib.hid hN2s
  have HN2O := Lib.hid hN2o
  have HK2 := Lib.hid hk2
  have HB2 := Lib.hid hb2
  clear h20 h21 h30 h31 hN2 hN2s hN2o hk2 hb2 HCP HW0 HW1
  have efn := eqFnil
  go_wp2_with (first | (refine wpList_store_row rfl 35 _ _ rfl w.heap.size N2 rfl rfl 35 N H20.out (infS HN2S.out) (HNS.out.trans HN2S.out.symm) HN2O.out ?_) | (refine wpList_store_row rfl 35 _ _ rfl (w.heap.size + 1) N2 rfl rfl 35 (nodeA zD none 0 0) H31.out (infS HN2S.out) HN2S.out.symm HN2O.out ?_) | (refine wpList_row rfl 35 _ rfl w.heap.size rfl 35 N2 (0, 0) _ H30.out undN rfl (infS HN2S.out) ?_))
  refine bodyPost_ret (v := .agg N2) (results_cell_row rfl _ _ (w.heap.size + 1) 35 N2 (0, 0) _ rfl (setRow_heap _ _ _ _ _ _ H31.out) undN rfl (infS HN2S.out)) rfl ?_
  have hs2 := HWS.out
  refine ⟨A2, c2, ks, by rw [nodeV, HN2.out], hk1, ?_, ?_⟩
  · exact ((HK2.out.row _ (by omega) _).row _ (by omega) _).lo_ (by omega)
  · exact below_row (below_row (HBW.out.trans (HB2.out.mono HBW.out.size)) (Nat.le_refl _) _) (by omega) _

theorem MS.drewN {T : TypeId} {lo : Nat} {a : AT} {F : Tr → Tr} {J : Nat → World → Prop} {wr : World} {st : List (AT × Nat)} {g cap : Nat} (hJ : JOk lo J) (h : MS T lo a F J wr st g cap) (n : Nat) : MS T lo a F J (wr.drewN n) st g cap :=
  ⟨h.own, h.chain, h.root, h.nodup, h.sub, h.fresh, h.done.keep (fun _ _ hg => hg) (fun _ _ _ _ _ => rfl), h.off, h.glo, h.siz, h.all, hJ _ _ _ h.jj ⟨rfl, rfl, rfl, Nat.le_refl _, fun _ _ => rfl⟩, h.res, fun e => NodeG.keep (w := wr) (w' := wr.drewN n) (fun _ _ hg => hg) (fun _ _ _ _ _ => rfl) _ _ _ (h.fin e)⟩
def MapPost (lo : Nat) (r : Tr) (Jn : World → Prop) (e : Ending) (w' : World) : Prop := ∃ A c, e = .returned (nodeV r.d A r.l.length c) ∧ r.d.ok ∧ SlG w' (fun b _ => lo ≤ b ∧ b < w'.heap.size) A c r.l ∧ Jn w'
def MRel (lo : Nat) (a : AT) (F : Tr → Tr) (J : Nat → World → Prop) (gk : Nat) (v : Value) (wr : World) : Prop :=
  ∃ st g cap, gk = 2 * (rem st).length - st.length ∧ v = .slice (some ⟨g, 0, none⟩) st.length cap ∧ MS 121 lo a F J wr st g cap
end Go.Proofs.YtbiacjkkgddclaaGreat
namespace Go.Proofs.YtbiacjkkgddclaaGreat
set_option linter.unusedSimpArgs false
set_option linter.unusedVariables false
open Go Go.RowKit Go.Shelf

theorem fresh_nodeG {w : World} {lo : Nat} (x : AT) : (∀ y ∈ x.all, FreshAt w lo y) → NodeG w (fun b _ => lo ≤ b ∧ b < w.heap.size) x.b x.o x.tr := by
  induction x using AT.ind with
  | _ b o d l ih =>
    intro h
    obtain ⟨h1, h2, h3, h4, h5, A, c, h6, h7, h8, h9⟩ := h (.mk b o d l) (by rw [AT.all_mk]; simp)
    have htr : (AT.mk b o d l).tr = .mk d (l.map AT.tr) := by simp [AT.tr, AT.trs_map]
    rw [htr]
    have hlen : (Tr.mk d (l.map AT.tr)).l.length = l.length := by simp [Tr.l]
    refine NodeG.mk ⟨h1, h2⟩ h4 (A := A) (c := c) (by rw [hlen]; exact h6) ⟨by rw [hlen]; exact h7, h8, ?_⟩
    rcases h9 with h9 | ⟨b', hA, h9⟩
    · exact .inl (by have : l = [] := h9; simp [Tr.l, this])
    · refine .inr ⟨b', 0, hA, KidsG.of (fun i hi => ?_)⟩
      have hi' : i < l.length := by rw [hlen] at hi; exact hi
      have e : (Tr.mk d (l.map AT.tr)).l[i] = l[i].tr := by simp [Tr.l]
      have ha : l[i].ad = (b', i * 22) := h9 i hi'
      have e2 : l[i].b = b' ∧ l[i].o = i * 22 := by simpa [AT.ad] using ha
      have := ih l[i] (List.getElem_mem hi') (fun y hy => h y (by rw [AT.all_mk]; exact List.mem_cons_of_mem _ (List.mem_flatMap.2 ⟨_, List.getElem_mem hi', hy⟩)))
      rw [e, Nat.zero_add, ← e2.1, ← e2.2]; exact this
theorem FreshKids.slG {w : World} {lo : Nat} {A : Option Addr} {c : Nat} {ks : List AT} (h : FreshKids w lo A c ks) : SlG w (fun b _ => lo ≤ b ∧ b < w.heap.size) A c (ks.map AT.tr) := by
  refine ⟨by rw [List.length_map]; exact h.cap, h.max, ?_⟩
  rcases h.at_ with rfl | ⟨b', hA, h9⟩
  · exact .inl rfl
  · refine .inr ⟨b', 0, hA, KidsG.of (fun i hi => ?_)⟩
    have hi' : i < ks.length := by simpa using hi
    have ha : ks[i].ad = (b', i * 22) := h9 i hi'
    have e2 : ks[i].b = b' ∧ ks[i].o = i * 22 := by simpa [AT.ad] using ha
    have := fresh_nodeG (w := w) (lo := lo) ks[i] (fun y hy => h.ok y (List.mem_flatMap.2 ⟨_, List.getElem_mem hi', hy⟩))
    simp only [List.getElem_map]
    rw [Nat.zero_add, ← e2.1, ← e2.2]; exact this
end Go.Proofs.YtbiacjkkgddclaaGreat
