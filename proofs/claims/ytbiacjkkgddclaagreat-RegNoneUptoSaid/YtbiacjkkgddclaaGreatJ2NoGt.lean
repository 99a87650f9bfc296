/- reg's Put, of a register that has a map. The reference's Nodes and Great. The reference's Great. -/
import Derived.Test.YtbiacjkkgddclaaGreatI8J1J5
import Derived.Test.YtbiacjkkgddclaaGreatI1M
import Derived.Test.YtbiacjkkgddclaaGreatRnH3Ov
import Derived.Laws.OwnMore
namespace Go.Proofs.YtbiacjkkgddclaaGreat
set_option linter.unusedSimpArgs false
set_option linter.unusedVariables false
open Go Go.RowKit Go.Shelf Go.Maps

/-- a write that came in. -/
structure WrIn (w : World) (B : Nat) (m : Wr) (A : Option Addr) (c : Nat) (Ao : Option Addr) (co : Nat) : Prop where
  id : m.id.ok
  v : m.x.v.ok
  d : m.x.t.d.ok
  size : m.x.t.size ≤ 1048576
  s : SlAt w B A c m.x.t.l
  g : IkG w (fun k => k < B) Ao co m.o
  o : ∀ k ∈ m.o, k.ok
  few : m.o.length ≤ 100000
theorem WrIn.later {w w' : World} {B B' : Nat} {m : Wr} {A : Option Addr} {c : Nat} {Ao : Option Addr} {co : Nat} (h : WrIn w B m A c Ao co) (hb : Below B w w') (hB : B ≤ B') : WrIn w' B' m A c Ao co :=
  ⟨h.id, h.v, h.d, h.size, (h.s.below hb).more hB, (h.g.below hb).mono (fun k hk => Nat.lt_of_lt_of_le hk hB), h.o, h.few⟩
theorem wcells_wr (m : Wr) (A : Option Addr) (c : Nat) (Ao : Option Addr) (co : Nat) : WCells (wrA m A c Ao co) m.id Ao m.o.length co := by
  obtain ⟨⟨a, n⟩, ⟨k, v, t⟩, o⟩ := m
  exact ⟨rfl, rfl, rfl, rfl⟩
theorem wr_idx (m : Wr) (A : Option Addr) (c : Nat) (Ao : Option Addr) (co : Nat) : (Tryz.prog.info? 49).map (·.size) = some (wrA m A c Ao co).size ∧ (Tryz.prog.info? 49).map (·.size) = some (wrA m A c Ao co).toList.length := ⟨infWr, by rw [Array.length_toList]; exact infWr⟩
/-- what Put does. -/
def PutP (w : World) (p n : Nat) (M : List Wr) (Z : Nat → Prop) (m : Wr) (e : Ending) (w' : World) : Prop := e = .returned (.int .i64 (putW M m).2) ∧ RgM w' p (n + 1) (putW M m).1 (fun b => Z b ∨ (w.heap.size ≤ b ∧ b < w'.heap.size)) ∧ KeepZ Z w w'
theorem PutP.old {w w' : World} {p n : Nat} {M : List Wr} {Z : Nat → Prop} {m : Wr} {er : Int} (h : RgM w p n M Z) (hp : putW M m = (M, er)) (hb : Below w.heap.size w w') : PutP w p n M Z m (.returned (.int .i64 er)) w' := by
  unfold PutP
  rw [hp]
  exact ⟨rfl, ((h.below hb).zone (fun b h => .inl h)).more (by omega), KeepZ.of hb⟩
theorem put_fin {w W0 w2 w3 wa w4 w5 : World} {p n b g B : Nat} {M : List Wr} {Z T : Nat → Prop} {D : DataW Value} {m : Wr} {A A2 Ao A3 : Option Addr} {c c2 co c3 : Nat}
    (hput : putW M m = if (mayI m.id && chainB m.o m.id) = false then (M, 1) else if rightC m.x = false then (M, 6) else if m.id ∈ idsW M then (M, 4) else (insW m M, 0)) (hda : (mayI m.id && chainB m.o m.id) = true) (hri : rightC m.x = true) (hno : m.id ∉ idsW M)
    (hrg : RgAt w2 p (some g) n D ∧ RepW w2 T D M ∧ Z p ∧ Z g ∧ ∀ k, T k → Z k ∧ k ≠ p ∧ k ≠ g ∧ k < w2.heap.size) (hne : p ≠ g ∧ b < w3.heap.size ∧ p < w2.heap.size ∧ g < w2.heap.size ∧ b ≠ g) (hm : WrIn w B m A c Ao co ∧ B ≤ w.heap.size)
    (hbel : Below w.heap.size w W0) (h02 : Below W0.heap.size W0 w2) (h3 : Below w2.heap.size w2 w3) (hba : Below w3.heap.size w3 wa) (h4 : Below wa.heap.size wa w4) (hsl : SlG w4 (fun b _ => wa.heap.size ≤ b ∧ b < w4.heap.size) A2 c2 m.x.t.l) (hok : w4.ownsRow wa.heap.size 28 2 (.slice A3 m.o.length c3) m.o.length (ikCells m.o))
    (ho5 : w5.ownsMap Tryz.prog 28 heldW g (n + 1) (D.put m.id.key (.held (.agg (wrA m A2 c2 A3 c3))))) (hg5 : w4.grownBy w5 (some g)) (hk5 : KeepZ (fun k => k = g) w3 w5) (hp3 : w3.heap[p]? = some (.cells #[.map (some g)] 66)) : PutP w p n M Z m (.returned (.int .i64 0)) w5 := by
  obtain ⟨hat, hrep, hzp, hzg, hT⟩ := hrg
  have e : putW M m = (insW m M, 0) := by rw [hput, hda, hri, if_neg (by decide), if_neg (by decide), if_neg hno]
  have s1 := hbel.size
  have s2 := h02.size
  have s3 := h3.size
  have s4 := hba.size
  have s5 := h4.size
  have s6 := hg5.size
  have k23 : KeepZ (fun k => k = g) w2 w5 := (KeepZ.of h3).trans hk5
  have hw02 : Below w.heap.size w w2 := hbel.trans (h02.mono s1)
  unfold PutP
  rw [e]
  refine ⟨rfl, ⟨g, _, fun k => T k ∨ (wa.heap.size ≤ k ∧ k < w4.heap.size), ⟨(hk5.block p (by omega) hne.1).trans hp3, ho5⟩, ?_, .inl hzp, .inl hzg, fun k hk => ?_⟩, (KeepZ.of hw02).trans (k23.mono (fun k e => by rw [e]; exact hzg))⟩
  · have hng : ∀ k, wa.heap.size ≤ k → k < w4.heap.size → w5.heap[k]? = w4.heap[k]? := fun k h1 h2 => hg5.block k h2 (fun e => by have := Option.some.inj e; omega)
    refine hrep.put (Z' := fun k => T k ∨ (wa.heap.size ≤ k ∧ k < w4.heap.size)) (fun b h => .inl h) (fun k hk => k23.block k (hT k hk).2.2.2 (hT k hk).2.2.1) ?_ hno ?_ ?_
    · exact ⟨hm.1.id, hm.1.v, hm.1.d, hm.1.size, hri, hda, hm.1.o, hm.1.few⟩
    · exact hsl.keep (fun b o h => .inr h) (fun b o h j _ => World.cell?_of_block (a := ⟨b, o + j, none⟩) (hng b h.1 h.2))
    · exact (own_ikG hok rfl).keep (fun k hk => ⟨hng k hk.1 hk.2, .inr hk⟩)
  · rcases hk with hk | hk
    · obtain ⟨q1, q2, q3, q4⟩ := hT k hk
      exact ⟨.inl q1, q2, q3, by omega⟩
    · exact ⟨.inr ⟨by omega, by omega⟩, by omega, by omega, by omega⟩
set_option maxRecDepth 100000 in
set_option maxHeartbeats 4000000 in
theorem put_c {w : World} {p n : Nat} {M : List Wr} {Z : Nat → Prop} (h : RgM w p n M Z) (hn : n < 100000) (hM : M.length < 10000) {B : Nat} (m : Wr) (A : Option Addr) (c : Nat) (Ao : Option Addr) (co : Nat) (hm : WrIn w B m A c Ao co) (hB : B ≤ w.heap.size) :
    Calls Tryz.prog 13 #[.pointer (some ⟨p, 0, none⟩), .agg (wrA m A c Ao co)] w (PutP w p n M Z m) := by
  obtain ⟨b, hb⟩ : ∃ b, b = w.heap.size := ⟨_, rfl⟩
  obtain ⟨CW, hCW⟩ : ∃ C, C = wrA m A c Ao co := ⟨_, rfl⟩
  obtain ⟨W0, hW0⟩ : ∃ W0, W0 = w.alloc (.cells CW 49) := ⟨_, rfl⟩
  have hbel : Below w.heap.size w W0 := by rw [hW0]; exact (bel1 _ _).1
  have hz0 : W0.heap.size = b + 1 := by rw [hW0, hb]; simp
  have hk0 : W0.heap[b]? = some (.cells CW 49) := by rw [hW0, hb]; exact heap_alloc_new _ _
  have hnm := fun (wx : World) (hx : Below W0.heap.size W0 wx) => named_c wx (fun k => k < B) CW m.id Ao co m.o.length m.o (by rw [hCW]; exact wcells_wr _ _ _ _ _) ((hm.later (hbel.mono hB) (Nat.le_refl _)).later (hx.mono (by omega)) (Nat.le_refl _)).g (fun k hk => by have : k < B := hk; have := hx.size; omega) rfl
  have hri := fun (wx : World) (hx : Below W0.heap.size W0 wx) => cright_c m.x wx B A c hm.v hm.d ((hm.later (hbel.mono hB) (Nat.le_refl _)).later (hx.mono (by omega)) (Nat.le_refl _)).s (by have := hx.size; omega) (by have := hm.size; omega)
  have hrow : ∀ wx, Below W0.heap.size W0 wx → wx.heap[b]? = some (.cells CW 49) := fun wx hx => (hx.block b (by omega)).trans hk0
  have hct : ∀ wx, Below W0.heap.size W0 wx → wx.rangeAt b 2 (contA m.x A c).toList := fun wx hx => (wr_rows (by rw [← hCW]; exact hrow wx hx)).2.1
  have hold : ∀ er w', putW M m = (M, er) → Below W0.heap.size W0 w' → PutP w p n M Z m (.returned (.int .i64 er)) w' := fun er w' hp hx => PutP.old h hp (hbel.trans (hx.mono (by omega)))
  have hput : putW M m = if (mayI m.id && chainB m.o m.id) = false then (M, 1) else if rightC m.x = false then (M, 6) else if m.id ∈ idsW M then (M, 4) else (insW m M, 0) := by
    unfold putW datedB
    rw [if_neg (show ¬ 10000 ≤ M.length by omega)]
  have hst : ∀ wx, Below W0.heap.size W0 wx → RgM wx p n M Z := fun wx hx => (h.below hbel).below hx
  have hicl : (Tryz.prog.info? 37).map (·.size) = some (contA m.x A c).toList.length := infC
  have hicw := wr_idx m A c Ao co
  rw [← hCW] at hicw
  have HM := Lib.hid (And.intro hm hB)
  have HOLD := Lib.hid hold
  have HPUT := Lib.hid hput
  have HST := Lib.hid hst
  have HNM := Lib.hid hnm
  have HRI := Lib.hid hri
  have HROW := Lib.hid hrow
  have HCT := Lib.hid hct
  have HW0 := Lib.hid hW0
  have HB := Lib.hid hb
  have HZ := Lib.hid hz0
  have HCW := Lib.hid hCW
  have HBL := Lib.hid hbel
  have HIL := Lib.hid hicl
  have HIW := Lib.hid hicw
  have HNN := Lib.hid (And.intro hn hM)
  have HK0 := Lib.hid hk0
  rw [← hCW]
  clear hm hB hold hput hst hnm hri hrow hct hW0 hb hz0 hCW hbel hicl hicw hk0 h
  go_enter Tryz.func13, Tryz.ntmps13
  go_upto_region 1 with (fail)
  rw [← HW0.out, ← HB.out]
  cases hda : (mayI m.id && chainB m.o m.id) with
  | false =>
    have HDA := Lib.hid hda
    rw [hda] at HNM
    clear hda
    go_wp2_with (first | (refine wpList_row rfl 49 _ rfl b rfl 49 CW (0, 0) _ HK0.out undWr rfl HIW.out.1 ?_) | (go_at_call 29; refine (HNM.out _ (Below.refl _ _)).mono ?_; rintro e w1 ⟨rfl, hb1⟩; have HX := Lib.hid hb1; clear hb1) | fail)
    first | go_ret | go_ret2
    exact HOLD.out _ _ (by rw [HPUT.out, if_pos HDA.out]) HX.out
  | true =>
    have HDA := Lib.hid hda
    rw [hda] at HNM
    clear hda
    cases hri : rightC m.x with
    | false =>
      have HRF := Lib.hid hri
      rw [hri] at HRI
      clear hri
      obtain ⟨CX, hCX⟩ : ∃ C, C = contA m.x A c := ⟨_, rfl⟩
      unfold contV at HRI
      rw [← hCX] at HIL HCT HRI
      clear hCX
      go_wp2_with (first | (refine wpList_row rfl 49 _ rfl b rfl 49 CW (0, 0) _ HK0.out undWr rfl HIW.out.1 ?_) | (go_at_call 29; refine (HNM.out _ (Below.refl _ _)).mono ?_; rintro e w1 ⟨rfl, hb1⟩; have HX := Lib.hid hb1; have hct1 := HCT.out w1 hb1; clear hb1) | (refine wpList_mid rfl 37 _ rfl b 2 rfl CX.toList _ hct1 undC rfl HIL.out ?_; simp only [Array.toArray_toList]) | (go_at_call 30; refine (HRI.out _ HX.out).mono ?_; rintro e w2 ⟨rfl, hb2⟩; have HY := Lib.hid hb2; clear hb2) | fail)
      first | go_ret | go_ret2
      exact HOLD.out _ _ (by rw [HPUT.out, HDA.out, HRF.out]; rfl) (HX.out.trans (HY.out.mono HX.out.size))
    | true =>
      have HRT := Lib.hid hri
      rw [hri] at HRI
      clear hri
      obtain ⟨CX, hCX⟩ : ∃ C, C = contA m.x A c := ⟨_, rfl⟩
      unfold contV at HRI
      rw [← hCX] at HIL HCT HRI
      clear hCX
      go_upto_region 5 with (first | (refine wpList_row rfl 49 _ rfl b rfl 49 CW (0, 0) _ HK0.out undWr rfl HIW.out.1 ?_) | (go_at_call 29; refine (HNM.out _ (Below.refl _ _)).mono ?_; rintro e w1 ⟨rfl, hb1⟩; have HX := Lib.hid hb1; have hct1 := HCT.out w1 hb1; clear hb1) | (refine wpList_mid rfl 37 _ rfl b 2 rfl CX.toList _ hct1 undC rfl HIL.out ?_; simp only [Array.toArray_toList]) | (go_at_call 30; refine (HRI.out _ HX.out).mono ?_; rintro e w2 ⟨rfl, hb2⟩; have HY := Lib.hid hb2; clear hb2) | fail)
      clear hct1
      have h02 : Below W0.heap.size W0 w2 := HX.out.trans (HY.out.mono HX.out.size)
      obtain ⟨g, D, T, hat, hrep, hzp, hzg, hT⟩ := HST.out w2 h02
      obtain ⟨cs, -, hatk, hcs, hcs1⟩ := look_wr hat m.id HM.out.1.id
      have hlk : ∀ wx, Below w2.heap.size w2 wx → (Instr.lookup 64 (.map (some g)) m.id.val true).run Tryz.prog wx = .ok (.tuple #[.agg cs, .bool (decide (m.id ∈ idsW M))]) wx := fun wx hx => by
        obtain ⟨cs', h1, h2, -, -⟩ := look_wr (hat.below hx) m.id HM.out.1.id
        rw [hatk] at h2
        have e : cs = cs' := by injection h2 with h2; injection h2
        rw [← hrep.has _ HM.out.1.id, e]; exact h1
      have hpc : ∀ wx, Below w2.heap.size w2 wx → wx.cell? ⟨p, 0, none⟩ = some (.map (some g)) := fun wx hx => cell_of_row _ _ 0 _ _ _ (hat.below hx).1
      have hid : ∀ wx, Below w2.heap.size w2 wx → wx.rangeAt b 0 m.id.cs := fun wx hx => (wr_rows (by rw [← HCW.out]; exact HROW.out wx (h02.trans (hx.mono h02.size)))).1
      have hics : (Tryz.prog.info? 49).map (·.size) = some cs.size := by rw [hcs]; exact infWr
      have HLK := Lib.hid hlk
      have HPC := Lib.hid hpc
      have HID := Lib.hid hid
      have HCS := Lib.hid (And.intro hics (And.intro (show (wrA zWr none 0 none 0).size = cs.size from by rw [hcs, wrA_size]) hcs1))
      have HRG := Lib.hid (And.intro hat (And.intro hrep (And.intro hzp (And.intro hzg hT))))
      have H02 := Lib.hid h02
      have HIK := Lib.hid (show ∀ x : Ik, (Tryz.prog.info? 28).map (·.size) = some x.cs.length from fun _ => ikInfo)
      obtain ⟨q, hq⟩ : ∃ q, q = w2.heap.size := ⟨_, rfl⟩
      have hb0 : Below w2.heap.size w2 w2.drew := (Below.refl _ _).drew
      have hb1 : Below w2.heap.size w2 (w2.drew.alloc (.cells (wrA zWr none 0 none 0) 49)) := hb0.alloc (Nat.le_refl _) _
      have hb2 : Below w2.heap.size w2 (w2.drew.alloc (.cells cs 49)) := hb0.alloc (Nat.le_refl _) _
      have HB1 := Lib.hid hb1
      have HB2 := Lib.hid hb2
      have HQ := Lib.hid hq
      obtain ⟨ok, hok⟩ : ∃ ok, ok = decide (m.id ∈ idsW M) := ⟨_, rfl⟩
      rw [← hok] at HLK
      have HOK := Lib.hid hok
      clear hat hrep hzp hzg hT hatk hcs hcs1 hlk hpc hid hics h02 hb1 hb2 hq hok
      obtain ⟨KV, hKV⟩ : ∃ K, K = m.id.val := ⟨_, rfl⟩
      have hKV2 : m.id.cs.toArray = #[.int .i64 m.id.a, .int .i64 m.id.n] := rfl
      go_wp2_with fail
      refine wp_region_held_drew (S := fun wx => Below w2.heap.size w2 wx) (by kernel_rfl) hb0 (fun hHeld => ?_)
      clear hb0
      refine wpAnyH_take (i := 0) (v := (.pointer (some ⟨p, 0, none⟩))) rfl (by kernel_rfl) (by kernel_rfl) (by kernel_rfl) (fun _ _ _ h => h) (Or.inl ⟨by kernel_rfl, fun _ hS => by kernel_rfl⟩) hHeld ?_
      (try simp only [Act.put, List.getElem_toArray, List.getElem_cons_succ, List.getElem_cons_zero, List.setIfInBounds_toArray, List.set_cons_zero, List.set_cons_succ])
      refine wpAnyH_take (i := 1) (v := (.pointer (some ⟨p, 0, none⟩))) rfl (by kernel_rfl) (by kernel_rfl) (by kernel_rfl) (fun _ _ _ h => h) (Or.inl ⟨by kernel_rfl, fun _ hS => by kernel_rfl⟩) hHeld ?_
      (try simp only [Act.put, List.getElem_toArray, List.getElem_cons_succ, List.getElem_cons_zero, List.setIfInBounds_toArray, List.set_cons_zero, List.set_cons_succ])
      refine wpAnyH_take (i := 2) (v := (.pointer (some ⟨p, 0, none⟩))) rfl (by kernel_rfl) (by kernel_rfl) (by kernel_rfl) (fun _ _ _ h => h) (Or.inl ⟨by kernel_rfl, fun _ hS => by kernel_rfl⟩) hHeld ?_
      (try simp only [Act.put, List.getElem_toArray, List.getElem_cons_succ, List.getElem_cons_zero, List.setIfInBounds_toArray, List.set_cons_zero, List.set_cons_succ])
      refine wpAnyH_take (i := 3) (v := (.map (some g))) rfl (by kernel_rfl) (by kernel_rfl) (by kernel_rfl) (fun _ _ _ h => h) (Or.inl ⟨by kernel_rfl, fun _ hS => ld_mw _ rfl ⟨p, 0, none⟩ rfl _ (HPC.out _ hS)⟩) hHeld ?_
      (try simp only [Act.put, List.getElem_toArray, List.getElem_cons_succ, List.getElem_cons_zero, List.setIfInBounds_toArray, List.set_cons_zero, List.set_cons_succ])
      refine wpAnyH_take (i := 4) (v := (.pointer (some ⟨b, 0, none⟩))) rfl (by kernel_rfl) (by kernel_rfl) (by kernel_rfl) (fun _ _ _ h => h) (Or.inl ⟨by kernel_rfl, fun _ hS => by kernel_rfl⟩) hHeld ?_
      (try simp only [Act.put, List.getElem_toArray, List.getElem_cons_succ, List.getElem_cons_zero, List.setIfInBounds_toArray, List.set_cons_zero, List.set_cons_succ])
      refine wpAnyH_take (i := 5) (v := .agg m.id.cs.toArray) rfl (by kernel_rfl) (by kernel_rfl) (by kernel_rfl) (fun _ _ _ h => h) (yieldsIf_load_mid (by kernel_rfl) 28 _ rfl b 0 rfl m.id.cs _ (fun _ hS => HID.out _ hS) ikUnd rfl (HIK.out _)) hHeld ?_
      (try simp only [Act.put, List.getElem_toArray, List.getElem_cons_succ, List.getElem_cons_zero, List.setIfInBounds_toArray, List.set_cons_zero, List.set_cons_succ])
      refine wpAnyH_take (i := 6) (v := (.tuple #[.agg cs, .bool ok])) rfl (by kernel_rfl) (by kernel_rfl) (by kernel_rfl) (fun _ _ _ h => h) (Or.inl ⟨by kernel_rfl, fun _ hS => lk_runW (mv := .map (some g)) (kv := .agg m.id.cs.toArray) _ _ true rfl rfl rfl (HLK.out _ hS)⟩) hHeld ?_
      (try simp only [Act.put, List.getElem_toArray, List.getElem_cons_succ, List.getElem_cons_zero, List.setIfInBounds_toArray, List.set_cons_zero, List.set_cons_succ])
      refine wpAnyH_take (i := 7) (v := (.tuple #[.agg cs, .bool ok])) rfl (by kernel_rfl) (by kernel_rfl) (by kernel_rfl) (fun _ _ _ h => h) (Or.inl ⟨by kernel_rfl, fun _ hS => by kernel_rfl⟩) hHeld ?_
      (try simp only [Act.put, List.getElem_toArray, List.getElem_cons_succ, List.getElem_cons_zero, List.setIfInBounds_toArray, List.set_cons_zero, List.set_cons_succ])
      refine wpAnyH_take (i := 8) (v := (.agg cs)) rfl (by kernel_rfl) (by kernel_rfl) (by kernel_rfl) (fun _ _ _ h => h) (Or.inl ⟨by kernel_rfl, fun _ hS => by kernel_rfl⟩) hHeld ?_
      (try simp only [Act.put, List.getElem_toArray, List.getElem_cons_succ, List.getElem_cons_zero, List.setIfInBounds_toArray, List.set_cons_zero, List.set_cons_succ])
      refine wpAnyH_take (i := 9) (v := (.bool ok)) rfl (by kernel_rfl) (by kernel_rfl) (by kernel_rfl) (fun _ _ _ h => h) (Or.inl ⟨by kernel_rfl, fun _ hS => by kernel_rfl⟩) hHeld ?_
      (try simp only [Act.put, List.getElem_toArray, List.getElem_cons_succ, List.getElem_cons_zero, List.setIfInBounds_toArray, List.set_cons_zero, List.set_cons_succ])
      refine wpAnyH_wrVar (i := 10) (by kernel_rfl) rfl rfl rfl q (HQ.out.symm) (HB1.out) (fun hHeld => ?_)
      (try simp only [Act.put, List.getElem_toArray, List.getElem_cons_succ, List.getElem_cons_zero, List.setIfInBounds_toArray, List.set_cons_zero, List.set_cons_succ])
      refine wpAnyH_storeFresh (i := 11) (by kernel_rfl) rfl rfl 49 _ _ rfl q (HQ.out.symm) cs rfl rfl HCS.out.1 HCS.out.2.1 HCS.out.2.2 HB2.out (fun hHeld => ?_)
      (try simp only [Act.put, List.getElem_toArray, List.getElem_cons_succ, List.getElem_cons_zero, List.setIfInBounds_toArray, List.set_cons_zero, List.set_cons_succ])
      refine wpAnyH_take (i := 12) (v := (.bool ok)) rfl (by kernel_rfl) (by kernel_rfl) (by kernel_rfl) (fun _ _ _ h => h) (Or.inl ⟨by kernel_rfl, fun _ hS => by kernel_rfl⟩) hHeld ?_
      (try simp only [Act.put, List.getElem_toArray, List.getElem_cons_succ, List.getElem_cons_zero, List.setIfInBounds_toArray, List.set_cons_zero, List.set_cons_succ])
      refine wpAnyH_done (by kernel_rfl) ?_ _
      clear hHeld
      obtain ⟨w3, hw3⟩ : ∃ w3, w3 = w2.drew.alloc (.cells cs 49) := ⟨_, rfl⟩
      have hb3 : Below w2.heap.size w2 w3 := by rw [hw3]; exact HB2.out
      rw [← hw3]
      have HB3 := Lib.hid hb3
      clear hw3 hb3 HB1 HB2 hKV hKV2 KV
      cases hokc : ok with
      | true =>
        rw [hokc] at HOK
        clear hokc HLK
        go_wp2
        first | go_ret | go_ret2
        exact HOLD.out _ _ (by rw [HPUT.out, HDA.out, HRT.out, if_neg (by decide), if_neg (by decide), if_pos (of_decide_eq_true HOK.out.symm)]) (H02.out.trans (HB3.out.mono H02.out.size))
      | false =>
        rw [hokc] at HOK
        clear hokc HLK
        have hno : m.id ∉ idsW M := of_decide_eq_false HOK.out.symm
        obtain ⟨hat, hrep, hzp, hzg, hT⟩ := HRG.out
        have ho3 : w3.ownsMap Tryz.prog 28 heldW g n D := (hat.below HB3.out).2
        have hlen := ho3.len undMw 3
        rw [hrep.size] at hlen
        have heq := eqMapW
        have hc3 := HPC.out w3 HB3.out
        have hroom : ¬ ((10000 : Int) ≤ (M.length : Int)) := by have := HNN.out.2; omega
        have HO3 := Lib.hid ho3
        have HNO := Lib.hid hno
        clear ho3 hno
        obtain ⟨hrr, hbb⟩ : p ≠ g ∧ b < w3.heap.size ∧ p < w2.heap.size ∧ g < w2.heap.size ∧ b ≠ g := by
          have hp := (Array.getElem?_eq_some_iff.1 hat.1).1
          obtain ⟨es, clock, e1, e2⟩ := hat.2
          have hg := (Array.getElem?_eq_some_iff.1 e1).1
          refine ⟨fun e => ?_, ?_, hp, hg, fun e => ?_⟩
          · have h1 := hat.1; rw [e, e1] at h1; cases h1
          · have := H02.out.size; have := HB3.out.size; have := HZ.out; omega
          · have h1 := HROW.out w2 H02.out
            rw [e, e1] at h1; cases h1
        have HNE := Lib.hid (And.intro hrr hbb)
        have HP3 := Lib.hid (hat.below HB3.out).1
        have h03 : Below W0.heap.size W0 w3 := H02.out.trans (HB3.out.mono H02.out.size)
        have hk3 : w3.heap[b]? = some (.cells CW 49) := HROW.out w3 h03
        have hS3 : ∀ wx, KeepZ (fun k => k = g) w3 wx → wx.cell? ⟨p, 0, none⟩ = some (.map (some g)) ∧ wx.rangeAt b 0 m.id.cs ∧ wx.rangeAt b 0 CW.toList := fun wx hx => by
          have e1 := (hx.block p (by have := HB3.out.size; have := hbb.2.1; omega) hrr).trans HP3.out
          have e2 := (hx.block b hbb.1 hbb.2.2.2).trans hk3
          exact ⟨cell_of_row _ _ 0 _ _ _ e1, (wr_rows (by rw [← HCW.out]; exact e2)).1, row_range_ e2 _ _ (fun j v hv => by rw [Nat.zero_add, ← Array.getElem?_toList]; exact hv)⟩
        have HS3 := Lib.hid hS3
        have hcl : Calls Tryz.prog 31 #[.agg CW] w3.drew (CloneW w3.drew m) := by
          rw [HCW.out]
          obtain ⟨hm, hB⟩ := HM.out
          have hbw : Below B w w3.drew := ((HBL.out.trans (h03.mono HBL.out.size)).mono hB).drew
          have hlt : B ≤ w3.drew.heap.size := by have := HBL.out.size; have := h03.size; show B ≤ w3.heap.size; omega
          have hl := hm.later hbw hlt
          exact rclone_c m w3.drew A c Ao co hl.d hl.s hl.size hl.g (by have := hl.few; omega)
        have HCL := Lib.hid hcl
        have H03 := Lib.hid h03
        clear hat hrep hzp hzg hT hrr hbb h03 hk3 hS3 hcl
        go_wp2
        clear hlen heq hc3 hroom
        refine wp_region_held_drew (S := fun wx => KeepZ (fun k => k = g) w3 wx) (by kernel_rfl) (KeepZ.of (Below.refl _ _).drew) (fun hHeld => ?_)
        obtain ⟨wa, hwa⟩ : ∃ x, x = w3.drew := ⟨_, rfl⟩
        have hba : Below w3.heap.size w3 wa := by rw [hwa]; exact (Below.refl _ _).drew
        rw [← hwa] at hHeld HCL ⊢
        have HBA := Lib.hid hba
        clear hwa hba
        refine wpAnyH_take (i := 0) (v := (.pointer (some ⟨p, 0, none⟩))) rfl (by kernel_rfl) (by kernel_rfl) (by kernel_rfl) (fun _ _ _ h => h) (Or.inl ⟨by kernel_rfl, fun _ hS => by kernel_rfl⟩) hHeld ?_
        (try simp only [Act.put, List.getElem_toArray, List.getElem_cons_succ, List.getElem_cons_zero, List.setIfInBounds_toArray, List.set_cons_zero, List.set_cons_succ])
        refine wpAnyH_take (i := 1) (v := (.pointer (some ⟨p, 0, none⟩))) rfl (by kernel_rfl) (by kernel_rfl) (by kernel_rfl) (fun _ _ _ h => h) (Or.inl ⟨by kernel_rfl, fun _ hS => by kernel_rfl⟩) hHeld ?_
        (try simp only [Act.put, List.getElem_toArray, List.getElem_cons_succ, List.getElem_cons_zero, List.setIfInBounds_toArray, List.set_cons_zero, List.set_cons_succ])
        refine wpAnyH_take (i := 2) (v := (.pointer (some ⟨p, 0, none⟩))) rfl (by kernel_rfl) (by kernel_rfl) (by kernel_rfl) (fun _ _ _ h => h) (Or.inl ⟨by kernel_rfl, fun _ hS => by kernel_rfl⟩) hHeld ?_
        (try simp only [Act.put, List.getElem_toArray, List.getElem_cons_succ, List.getElem_cons_zero, List.setIfInBounds_toArray, List.set_cons_zero, List.set_cons_succ])
        refine wpAnyH_take (i := 3) (v := (.map (some g))) rfl (by kernel_rfl) (by kernel_rfl) (by kernel_rfl) (fun _ _ _ h => h) (Or.inl ⟨by kernel_rfl, fun _ hS => ld_mw _ rfl ⟨p, 0, none⟩ rfl _ (HS3.out _ hS).1⟩) hHeld ?_
        (try simp only [Act.put, List.getElem_toArray, List.getElem_cons_succ, List.getElem_cons_zero, List.setIfInBounds_toArray, List.set_cons_zero, List.set_cons_succ])
        refine wpAnyH_take (i := 4) (v := (.pointer (some ⟨b, 0, none⟩))) rfl (by kernel_rfl) (by kernel_rfl) (by kernel_rfl) (fun _ _ _ h => h) (Or.inl ⟨by kernel_rfl, fun _ hS => by kernel_rfl⟩) hHeld ?_
        (try simp only [Act.put, List.getElem_toArray, List.getElem_cons_succ, List.getElem_cons_zero, List.setIfInBounds_toArray, List.set_cons_zero, List.set_cons_succ])
        refine wpAnyH_take (i := 5) (v := .agg m.id.cs.toArray) rfl (by kernel_rfl) (by kernel_rfl) (by kernel_rfl) (fun _ _ _ h => h) (yieldsIf_load_mid (by kernel_rfl) 28 _ rfl b 0 rfl m.id.cs _ (fun _ hS => (HS3.out _ hS).2.1) ikUnd rfl (HIK.out _)) hHeld ?_
        (try simp only [Act.put, List.getElem_toArray, List.getElem_cons_succ, List.getElem_cons_zero, List.setIfInBounds_toArray, List.set_cons_zero, List.set_cons_succ])
        refine wpAnyH_take (i := 6) (v := .agg CW.toList.toArray) rfl (by kernel_rfl) (by kernel_rfl) (by kernel_rfl) (fun _ _ _ h => h) (yieldsIf_load_mid (by kernel_rfl) 49 _ rfl b 0 rfl CW.toList _ (fun _ hS => (HS3.out _ hS).2.2) undWr rfl HIW.out.2) hHeld ?_
        (try simp only [Act.put, List.getElem_toArray, List.getElem_cons_succ, List.getElem_cons_zero, List.setIfInBounds_toArray, List.set_cons_zero, List.set_cons_succ])
        simp only [Array.toArray_toList]
        refine wpAnyH_ready (rs := [7]) (by kernel_rfl) (by simp) ?_
        refine AllReadyH.cons rfl (fun K hK => ?_) AllReadyH.nil
        go_simp
        refine HCL.out.mono ?_
        rintro e w4 ⟨A2, c2, A3, c3, rfl, hsl4, hok4, hb4⟩
        have HSL4 := Lib.hid (And.intro hsl4 hok4)
        clear hsl4 hok4
        try go_simp
        have hH4 : KeepZ (fun k => k = g) w3 w4 := hHeld.trans (KeepZ.of hb4)
        have ho4 : w4.ownsMap Tryz.prog 28 heldW g n D := own_map_below HO3.out (HBA.out.trans (hb4.mono HBA.out.size))
        have HO4 := Lib.hid ho4
        have HB4 := Lib.hid hb4
        clear ho4
        refine hK.out _ _ hH4 (fun hHeld4 => ?_)
        clear hK K hHeld hH4
        (try simp only [Act.put, List.getElem_toArray, List.getElem_cons_succ, List.getElem_cons_zero, List.setIfInBounds_toArray, List.set_cons_zero, List.set_cons_succ])
        refine wpAnyH_putW (i := 8) (by kernel_rfl) rfl rfl _ _ _ rfl g n D rfl m.id HM.out.1.id rfl m A2 c2 A3 c3 rfl (by unfold maxLen; have := HNN.out.1; omega) HO4.out (fun w' hg => hHeld4.trans ⟨hg.os, hg.tape, hg.output, hg.size, fun k hk hne => hg.block k hk (fun e => hne (Option.some.inj e))⟩) (fun w5 ho5 hg5 hHeld5 => ?_)
        (try simp only [Act.put, List.getElem_toArray, List.getElem_cons_succ, List.getElem_cons_zero, List.setIfInBounds_toArray, List.set_cons_zero, List.set_cons_succ])
        refine wpAnyH_done (by kernel_rfl) ?_ _
        go_wp2
        first | go_ret | go_ret2
        exact put_fin HPUT.out HDA.out HRT.out HNO.out HRG.out HNE.out HM.out HBL.out H02.out HB3.out HBA.out HB4.out HSL4.out.1 HSL4.out.2 ho5 hg5 hHeld5 HP3.out
end Go.Proofs.YtbiacjkkgddclaaGreat
namespace Go.Proofs.YtbiacjkkgddclaaGreat
open Go.RowKit Go.Shelf

def NodesPost (w : World) (B : Nat) (ts : List Tr) (e : Ending) (w' : World) : Prop :=
  ∃ g cap xs, e = .returned (.slice (some ⟨g, 0, none⟩) ts.length cap) ∧ w'.ownsRow w.heap.size 35 22 (.slice (some ⟨g, 0, none⟩) ts.length cap) ts.length xs ∧ NRow w B ts xs ∧ Below w.heap.size w w'
def RNodes (w : World) (B n : Nat) (d : ND) (l : List Tr) (A : Option Addr) (c : Nat) (v i : Value) (wr : World) : Prop :=
  ∃ j g cap xs N, j ≤ n ∧ i = .int .i64 (j : Nat) ∧ N = (Tr.mk d l :: Tr.nodess (l.take j)).length ∧ v = .slice (some ⟨g, 0, none⟩) N cap ∧ wr.ownsRow (w.heap.size + 1) 35 22 (.slice (some ⟨g, 0, none⟩) N cap) N xs ∧ NRow w B (Tr.mk d l :: Tr.nodess (l.take j)) xs ∧
    wr.cell? ⟨w.heap.size, 21, none⟩ = some (.slice A n c) ∧ w.heap.size + 1 ≤ wr.heap.size ∧ Below w.heap.size w wr

set_option maxRecDepth 100000 in
set_option maxHeartbeats 2000000 in
theorem nodes_c (t : Tr) : ∀ (w : World) (B : Nat) (A : Option Addr) (c : Nat) (_ : t.d.ok) (_ : SlAt w B A c t.l) (_ : B ≤ w.heap.size) (_ : t.size ≤ 1048576),
    Calls Tryz.prog 47 #[nodeV t.d A t.l.length c] w (NodesPost w B t.nodes) := by
  induction t using Tr.ind with | _ d l ih => ?_
  intro w B A c hd hs hB hsz
  have IH := Lib.hid ih
  have HD := Lib.hid hd
  have HS := Lib.hid hs
  clear ih hd hs
  dsimp only [Tr.d, Tr.l] at HD HS ⊢
  rw [nodeV_eq]
  have hsl := HS.out.1
  have hsc := HS.out.2.1
  obtain ⟨n, hn⟩ : ∃ n, l.length = n := ⟨_, rfl⟩
  rw [hn] at hsl ⊢
  have HN := Lib.hid hn
  have hszl : Tr.sizes l + 1 ≤ 1048576 := by simpa [Tr.size] using hsz
  obtain ⟨ti, hti, hz0, hz1, hz2⟩ := info_parts infoN
  clear hn hsz
  go_enter Tryz.func47, Tryz.ntmps47
  go_wp2_with (refine wpList_load_row rfl 35 _ rfl w.heap.size rfl 35 _ (0, 0) _ (World.alloc_heap_new w _) undN rfl infN ?_)
  go_loopw [3, 4] (fun v i wr => RNodes w B n d l A c v i wr) (fun _ i _ => n - (intOf i).toNat)
  case atStart =>
    have hblk : ∀ o o' : Obj, ((w.alloc o).alloc o').heap[w.heap.size + 1]? = some o' := fun o o' => by
      have := World.alloc_heap_new (w.alloc o) o'; rwa [World.size_alloc] at this
    refine ⟨0, w.heap.size + 1, 1, (nodeA d A n c).toList, 1, Nat.zero_le _, rfl, by simp [Tr.nodess], rfl, ?_, ?_, ?_, by simp, ?_⟩
    · exact ⟨rfl, .inr ⟨w.heap.size + 1, 1, nodeA d A n c, rfl, Nat.le_refl _, hblk _ _, Nat.le_refl _, by unfold maxLen; omega, rfl, rfl⟩⟩
    · simp only [NRow, Tr.nodess, List.take_zero]
      exact ⟨(nodeA d A n c).toList, [], by simp, ⟨A, c, by rw [show (Tr.mk d l).l.length = n from HN.out]; rfl, HD.out, HS.out⟩, rfl⟩
    · exact (cell_of_row _ _ 21 _ _ _ ((heapOld _ _ _ (by simp)).trans (World.alloc_heap_new w _)))
    · exact ((Below.refl _ w).alloc (Nat.le_refl _) _).alloc (by simp) _
  case round =>
    obtain ⟨j, g, cap, xs, M, hj, rfl, hM, rfl, hown, hrow, hcell, hszw, hbel⟩ := hrel
    by_cases hlt : j < n
    · have hjl : j < l.length := by rw [HN.out]; exact hlt
      obtain ⟨b2, o2, hA, hkn⟩ := HS.out.at_ j hjl
      subst hA
      obtain ⟨hkb, hkd, A2, c2, hkc, hks⟩ := hkn.open_
      have hst := sizes_take hjl
      have hkid := IH.out l[j] (List.getElem_mem hjl) wr B A2 c2 hkd (hks.below (hbel.mono hB)) (by have := hbel.size; omega) (by omega)
      obtain ⟨cs, hcs, hcl, hrg⟩ := hkc.range (w' := wr) (fun p hp => hbel.cell (by omega))
      rw [nodeV, ← hcs] at hkid
      have hinf := infN
      rw [← hcl] at hinf
      have HRG := Lib.hid hrg
      have HIN := Lib.hid hinf
      have HK := Lib.hid hkid
      have HM := Lib.hid hM
      have HOW := Lib.hid hown
      have HRW := Lib.hid hrow
      have HBE := Lib.hid hbel
      have hMl : M ≤ 1 + Tr.sizes (l.take j) := by rw [hM, List.length_cons, nodess_len]; omega
      have hj1 : (j : Int) < (n : Int) := by omega
      have hj0 : (0 : Int) ≤ (j : Int) := by omega
      clear hinf hrg hcl hcs hkid hM hown hrow hbel hkn hkb hkd hkc hks
      go_wp2_with (first | (refine wpList_load_mid rfl 35 _ rfl b2 (o2 + j * 22) rfl cs _ HRG.out undN rfl HIN.out ?_) | (go_at_call 47; refine HK.out.mono ?_; rintro e w2 ⟨g2, cap2, ys, rfl, hown2, hrow2, hbe⟩; have HO2 := Lib.hid hown2; have HR2 := Lib.hid hrow2; have HB2 := Lib.hid hbe; clear hown2 hrow2 hbe) | (at_builtin; refine wpList_append_own _ rfl _ _ 33 rfl (w.heap.size + 1) 35 ti _ 22 192 undNs hti hz0 hz1 hz2 rfl (by decide) _ M xs rfl (owns_below HOW.out HB2.out) ⟨g2, 0, none⟩ _ cap2 ys rfl HR2.out.len (HO2.out.cells (g := g2) rfl) HR2.out.one (by rw [nodes_len]; unfold maxLen; omega) (by rw [nodes_len]; omega) (by have := HB2.out.size; omega) ?_; intro v' w3 hown3 hgrow hnil))
      obtain ⟨g3, cap3, cur3, rfl, -⟩ := own_form hown3 (by have := l[j].size_pos; rw [nodes_len]; omega)
      have HO3 := Lib.hid hown3
      have HG3 := Lib.hid hgrow
      clear hown3 hgrow hnil
      go_wp2
      go_roundw
      case measure => simp [intOf]; omega
      case rel =>
        have hgb : w.heap.size + 1 ≤ g ∧ g < wr.heap.size := HOW.out.lt g rfl
        have hne : (some w.heap.size : Option Nat) ≠ some g := fun e => by have := Option.some.inj e; omega
        have hge : ∀ k, (some g : Option Nat) = some k → w.heap.size ≤ k := fun k e => by have := Option.some.inj e; omega
        have hbw2 : Below w.heap.size w w2 := HBE.out.trans (HB2.out.mono HBE.out.size)
        have hgr := HG3.out
        refine ⟨j + 1, g3, cap3, xs ++ ys, M + l[j].nodes.length, by omega, by go_num, ?_, rfl, HO3.out, ?_, ?_, ?_, ?_⟩
        · rw [nodess_step hjl, HM.out]; simp only [List.length_cons, List.length_append]; omega
        · rw [nodess_step hjl, ← List.cons_append]
          exact HRW.out.append (NRow.keep_rev hB HBE.out HR2.out)
        · refine (hgr.cell_far ⟨w.heap.size, 21, none⟩ (by have := HB2.out.size; simp; omega) hne).trans ((HB2.out.cell (p := ⟨w.heap.size, 21, none⟩) (by simp; omega)).trans hcell)
        · have := hgr.size; have := HB2.out.size; omega
        · exact hbw2.grown hgr (by have := hbw2.size; omega) hge
    · obtain rfl : j = n := by omega
      have HM := Lib.hid hM
      have HOW := Lib.hid hown
      clear hM hown
      go_wp2
      go_ret
      rw [← HN.out, List.take_length] at HM hrow
      have hMe : M = (Tr.mk d l).nodes.length := by rw [HM.out]; simp [Tr.nodes]
      subst hMe
      exact ⟨g, cap, xs, rfl, owns_base HOW.out (by omega), by simpa [Tr.nodes] using hrow, hbel⟩
end Go.Proofs.YtbiacjkkgddclaaGreat
namespace Go.Proofs.YtbiacjkkgddclaaGreat
open Go.RowKit Go.Shelf

def greatB (t : Tr) : Bool := overB t 40 || decide (400 < t.size)

set_option maxRecDepth 100000 in
set_option maxHeartbeats 2000000 in
theorem great_c (t : Tr) (w : World) (B : Nat) (A : Option Addr) (c : Nat) (hd : t.d.ok) (hs : SlAt w B A c t.l) (hB : B ≤ w.heap.size) (hsz : t.size ≤ 1048576) :
    Calls Tryz.prog 24 #[nodeV t.d A t.l.length c] w fun e w' => e = .returned (.bool (greatB t)) ∧ Below w.heap.size w w' := by
  have hO := fun wx (hx : Below w.heap.size w wx) => over_c t wx B A c 40 hd (hs.below (hx.mono hB)) (by have := hx.size; omega) (by omega)
  have hN := fun wx (hx : Below w.heap.size w wx) => nodes_c t wx B A c hd (hs.below (hx.mono hB)) (by have := hx.size; omega) hsz
  unfold greatB
  rw [← nodes_len t]
  have hnl : t.nodes.length ≤ 1048576 := by rw [nodes_len]; exact hsz
  obtain ⟨N, hN0⟩ : ∃ N, N = nodeA t.d A t.l.length c := ⟨_, rfl⟩
  have hNs : N.size = 22 := by rw [hN0]; rfl
  simp only [nodeV, ← hN0] at hO hN ⊢
  obtain ⟨r, hr⟩ : ∃ r, overB t 40 = r := ⟨_, rfl⟩
  rw [hr] at hO ⊢
  have hinf := infN
  rw [← hNs] at hinf
  have HIN := Lib.hid hinf
  have HO := Lib.hid hO
  have HN := Lib.hid hN
  have hb0 : Below w.heap.size w (w.alloc (.cells N 35)) := (Below.refl _ w).alloc (Nat.le_refl _) _
  have HB := Lib.hid hb0
  clear hO hN hr hinf hb0 hNs hN0 hd hs hsz
  generalize t.nodes = ts at *
  cases r
  · go_enter Tryz.func24, Tryz.ntmps24
    go_wp2_with (first | (refine wpList_row rfl 35 _ rfl w.heap.size rfl 35 N (0, 0) _ (World.alloc_heap_new w _) undN rfl HIN.out ?_) | (go_at_call 46; refine (HO.out _ HB.out).mono ?_; rintro e w2 ⟨rfl, hbe⟩; have hb2 : Below w.heap.size w w2 := HB.out.trans (hbe.mono (by simp)); have hg2 : w2.heap[w.heap.size]? = some (.cells N 35) := (hbe.block _ (by simp)).trans (World.alloc_heap_new w _); have HG2 := Lib.hid hg2; clear hg2) | (refine wpList_row rfl 35 _ rfl w.heap.size rfl 35 N (0, 0) _ HG2.out undN rfl HIN.out ?_) | (go_at_call 47; refine (HN.out _ hb2).mono ?_; rintro e w3 ⟨g, cap, xs, rfl, -, -, hbe3⟩))
    go_ret
    exact ⟨ret_bool (by rw [Bool.eq_iff_iff]; simp; omega), hb2.trans (hbe3.mono hb2.size)⟩
  · go_enter Tryz.func24, Tryz.ntmps24
    go_wp2_with (first | (refine wpList_row rfl 35 _ rfl w.heap.size rfl 35 N (0, 0) _ (World.alloc_heap_new w _) undN rfl HIN.out ?_) | (go_at_call 46; refine (HO.out _ HB.out).mono ?_; rintro e w2 ⟨rfl, hbe⟩))
    go_ret
    exact ⟨rfl, HB.out.trans (hbe.mono (by simp))⟩
end Go.Proofs.YtbiacjkkgddclaaGreat
