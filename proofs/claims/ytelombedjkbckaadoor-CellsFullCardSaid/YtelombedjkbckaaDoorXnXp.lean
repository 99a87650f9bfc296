/- Put of a store of cells that is full; of nothing. The cells of CellsFull, as the map reads. -/
import Derived.Test.YtelombedjkbckaaDoorXeXfXg
import Derived.StillTailTactics
namespace Go.Proofs.YtelombedjkbckaaDoor
open Go Go.RowKit Go.Shelf Go.Maps

set_option maxRecDepth 100000 in
set_option maxHeartbeats 4000000 in
theorem put_full (w : World) (p g n : Nat) (D : DataW Value) (h : StAt w p (some g) n D) (a : Ad) (ha : a.ok) (his : a.is = true) (x : Ct) (A : Option Addr) (c : Nat) (hx1 : x.k = 1) (hr : rightC x = true) (hv : x.v.ok) (hd : x.t.d.ok) (B : Nat) (hs : SlAt w B A c x.t.l) (hB : B ≤ w.heap.size) (hsz : x.t.size ≤ 1099511627776) (hok : Maps.has D a.key = false) (hroom : 10000 ≤ Maps.size D) :
    Calls Tryd.prog 10 #[.pointer (some ⟨p, 0, none⟩), a.val, contV x A c] w fun e w' => e = .returned (.int .i64 5) ∧ Below w.heap.size w w' := by
  obtain ⟨ra, rn, ca, cn⟩ := a
  obtain ⟨W0, hW0⟩ : ∃ W0, W0 = (w.alloc (.cells #[.int .i64 ra, .int .i64 rn, .int .i64 ca, .int .i64 cn] 45)).alloc (.cells (contA x A c) 36) := ⟨_, rfl⟩
  have hbel : Below w.heap.size w W0 := by rw [hW0]; exact ((Below.refl _ w).alloc (Nat.le_refl _) _).alloc (by simp) _
  have hz0 : W0.heap.size = w.heap.size + 2 := by rw [hW0]; simp
  have hk0 : W0.heap[w.heap.size]? = some (.cells #[.int .i64 ra, .int .i64 rn, .int .i64 ca, .int .i64 cn] 45) := by rw [hW0]; exact (heapOld _ _ _ (by simp)).trans (heap_alloc_new _ _)
  have hk1 : W0.heap[w.heap.size + 1]? = some (.cells (contA x A c) 36) := by
    rw [hW0]
    have := heap_alloc_new (w.alloc (.cells #[.int .i64 ra, .int .i64 rn, .int .i64 ca, .int .i64 cn] 45)) (.cells (contA x A c) 36)
    rwa [World.size_alloc] at this
  have hpl : p < w.heap.size := (Array.getElem?_eq_some_iff.1 h.1).1
  have hgl : g < w.heap.size := by have : w.ownsMap Tryd.prog 45 heldR g n D := h.2; exact this.lt
  have hpg : p ≠ g := fun e => by
    have h1 := h.1
    obtain ⟨es, clock, e1, -⟩ := h.2
    rw [e, e1] at h1; cases h1
  have HPG := Lib.hid hpg
  clear hpg
  have hst : ∀ wx, Below W0.heap.size W0 wx → StAt wx p (some g) n D := fun wx hx => (h.below hbel).below hx
  have hI : ∀ wx, Calls Tryd.prog 20 #[.agg #[.int .i64 ra, .int .i64 rn, .int .i64 ca, .int .i64 cn]] wx fun e w' => e = .returned (.bool true) ∧ Below wx.heap.size wx w' := fun wx => by have := isCell_c ra rn ca cn wx; rw [show isCellB ra rn ca cn = true from his] at this; exact this
  have hR : ∀ wx, Below W0.heap.size W0 wx → Calls Tryd.prog 15 #[contV x A c] wx fun e w' => e = .returned (.bool true) ∧ Below wx.heap.size wx w' := fun wx hx => by
    have := cright_c x wx B A c hv hd ((hs.below (hbel.mono hB)).below (hx.mono (by omega))) (by have := hx.size; omega) hsz
    rwa [hr] at this
  have hcp := fun wx => copiedP_c x wx A c (by omega)
  have hkk : ∀ wx, Below W0.heap.size W0 wx → wx.cell? ⟨w.heap.size + 1, 0, none⟩ = some (.int .i64 1) := fun wx hx => by rw [← hx1]; exact (cont_row ((hx.block (w.heap.size + 1) (by omega)).trans hk1)).1
  have hka : ∀ wx, Below W0.heap.size W0 wx → wx.heap[w.heap.size + 1]? = some (.cells (contA x A c) 36) := fun wx hx => (hx.block (w.heap.size + 1) (by omega)).trans hk1
  have hkb : ∀ wx, Below W0.heap.size W0 wx → wx.heap[w.heap.size]? = some (.cells #[.int .i64 ra, .int .i64 rn, .int .i64 ca, .int .i64 cn] 45) := fun wx hx => (hx.block w.heap.size (by omega)).trans hk0
  have hix : (Tryd.prog.info? 36).map (·.size) = some (contA x A c).size := infC
  rw [contV] at hR
  simp only [contV] at hcp
  obtain ⟨CA, hCA⟩ : ∃ C, C = contA x A c := ⟨_, rfl⟩
  obtain ⟨b, hb⟩ : ∃ b, b = w.heap.size := ⟨_, rfl⟩
  rw [show contV x A c = .agg CA by rw [hCA]]
  simp only [← hCA] at hka hR hcp hix hW0
  have hil : (Tryd.prog.info? 36).map (·.size) = some CA.toList.length := by rw [Array.length_toList]; exact hix
  rw [← hb] at hka hkb hkk hpl hgl hz0
  simp only [Ad.val]
  obtain ⟨sz, hsz0⟩ : ∃ sz, sz = Maps.size D := ⟨_, rfl⟩
  rw [← hsz0] at hroom
  have HW0 := Lib.hid hW0
  have HST := Lib.hid hst
  have HI := Lib.hid hI
  have HR := Lib.hid hR
  have HCP := Lib.hid hcp
  have HKK := Lib.hid hkk
  have HKA := Lib.hid hka
  have HKB := Lib.hid hkb
  have HIX := Lib.hid hix
  have HIL := Lib.hid hil
  have HA := Lib.hid ha
  have HOK := Lib.hid hok
  have HB := Lib.hid hb
  have HBEL := Lib.hid hbel
  have HSZ := Lib.hid hsz0
  have HPL := Lib.hid hpl
  have HGL := Lib.hid hgl
  have HZ := Lib.hid hz0
  clear hW0 hst hI hR hcp hkk hka hkb hix hil ha hok hb hbel hk0 hk1 hCA hs hd hv hr hx1 h his hsz hsz0 hpl hgl hz0 hB
  have hb00 : Below W0.heap.size W0 W0 := Below.refl _ _
  have hrgb : ∀ wx, Below W0.heap.size W0 wx → wx.rangeAt b 0 [.int .i64 ra, .int .i64 rn, .int .i64 ca, .int .i64 cn] := fun wx hx => ad_range (HKB.out wx hx)
  have HRGB := Lib.hid hrgb
  clear hrgb
  go_enter Tryd.func10, Tryd.ntmps10
  go_upto_region 1 with (fail)
  rw [← HW0.out, ← HB.out]
  go_wp2_with (first | (refine wpList_mid rfl 45 _ rfl b 0 rfl _ _ (HRGB.out _ hb00) undCell rfl infCell ?_) | (go_at_call 20; refine (HI.out W0).mono ?_; rintro e w1 ⟨rfl, hb1⟩) | (refine wpList_row rfl 36 _ rfl (b + 1) rfl 36 CA (0, 0) _ (HKA.out _ hb1) undC rfl HIX.out ?_) | (go_at_call 15; refine (HR.out _ hb1).mono ?_; rintro e w2 ⟨rfl, hbr⟩; have hb2 := hb1.trans (hbr.mono hb1.size); have hkc := HKK.out _ hb2))
  clear hb1 hbr hb00 hkc
  -- v, ok := s.m[at]
  obtain ⟨cs, hl0, hcs, hcz, hco⟩ := look_st (HST.out w2 hb2) ⟨ra, rn, ca, cn⟩ HA.out
  have hl : ∀ wx, Below w2.heap.size w2 wx → (Instr.lookup 56 (.map (some g)) (.agg #[.int .i64 ra, .int .i64 rn, .int .i64 ca, .int .i64 cn]) true).run Tryd.prog wx = .ok (.tuple #[.agg cs, .bool false]) wx := fun wx hx => by
    obtain ⟨cs', hl', hv', -⟩ := look_st (HST.out wx (hb2.trans (hx.mono hb2.size))) ⟨ra, rn, ca, cn⟩ HA.out
    rw [hcs] at hv'
    obtain rfl : cs = cs' := by injection hv' with hv'; injection hv'
    rw [HOK.out] at hl'
    exact hl'
  have hcw : ∀ wx, Below w2.heap.size w2 wx → wx.cell? ⟨p, 0, none⟩ = some (.map (some g)) := fun wx hx => cell_of_row _ _ 0 _ _ _ (HST.out wx (hb2.trans (hx.mono hb2.size))).1
  have hrg : ∀ wx, Below w2.heap.size w2 wx → wx.rangeAt b 0 [.int .i64 ra, .int .i64 rn, .int .i64 ca, .int .i64 cn] := fun wx hx => HRGB.out wx (hb2.trans (hx.mono hb2.size))
  have hs1 : Below w2.heap.size w2 (w2.drew.alloc (.cells (contA zCt none 0) 36)) := (Below.refl _ _).drew.alloc (Nat.le_refl _) _
  have hs2 : Below w2.heap.size w2 (w2.drew.alloc (.cells cs 36)) := (Below.refl _ _).drew.alloc (Nat.le_refl _) _
  have hixc : (Tryd.prog.info? 36).map (·.size) = some cs.size := by rw [hcz]; exact infC
  have hzc : (contA zCt none 0).size = cs.size := by rw [hcz]; rfl
  obtain ⟨q, hq⟩ : ∃ q, w2.drew.heap.size = q := ⟨_, rfl⟩
  obtain ⟨W3, hW3⟩ : ∃ W3, W3 = w2.drew.alloc (.cells cs 36) := ⟨_, rfl⟩
  have hb3 : Below W0.heap.size W0 W3 := by rw [hW3]; exact hb2.trans (hs2.mono hb2.size)
  have HL := Lib.hid hl
  have HCP0 := Lib.hid hcw
  have HRG := Lib.hid hrg
  have HS1 := Lib.hid hs1
  have HS2 := Lib.hid hs2
  have HIXC := Lib.hid hixc
  have HZX := Lib.hid hzc
  have HOX := Lib.hid hco
  have HZ0 := Lib.hid hq
  have HW3 := Lib.hid hW3
  have HB3 := Lib.hid hb3
  clear hl hcw hrg hs1 hs2 hixc hzc hco hq hW3 hb3 hl0 hcs hcz
  refine wp_region_held_drew (S := fun wx => Below w2.heap.size w2 wx) (by kernel_rfl) (Below.refl _ _).drew (fun hHeld => ?_)
  refine wpAnyH_take (i := 0) (v := (.pointer (some ⟨p, 0, none⟩))) rfl (by kernel_rfl) (by kernel_rfl) (by kernel_rfl) (fun _ _ _ h => h) (Or.inl ⟨by kernel_rfl, fun _ hS => by kernel_rfl⟩) hHeld ?_
  (try simp only [Act.put, List.getElem_toArray, List.getElem_cons_zero, List.setIfInBounds_toArray, List.set_cons_zero, List.set_cons_succ])
  refine wpAnyH_take (i := 1) (v := (.pointer (some ⟨p, 0, none⟩))) rfl (by kernel_rfl) (by kernel_rfl) (by kernel_rfl) (fun _ _ _ h => h) (Or.inl ⟨by kernel_rfl, fun _ hS => by kernel_rfl⟩) hHeld ?_
  (try simp only [Act.put, List.getElem_toArray, List.getElem_cons_succ, List.getElem_cons_zero, List.setIfInBounds_toArray, List.set_cons_zero, List.set_cons_succ])
  refine wpAnyH_take (i := 2) (v := (.pointer (some ⟨p, 0, none⟩))) rfl (by kernel_rfl) (by kernel_rfl) (by kernel_rfl) (fun _ _ _ h => h) (Or.inl ⟨by kernel_rfl, fun _ hS => by kernel_rfl⟩) hHeld ?_
  (try simp only [Act.put, List.getElem_toArray, List.getElem_cons_succ, List.getElem_cons_zero, List.setIfInBounds_toArray, List.set_cons_zero, List.set_cons_succ])
  refine wpAnyH_take (i := 3) (v := (.map (some g))) rfl (by kernel_rfl) (by kernel_rfl) (by kernel_rfl) (fun _ _ _ h => h) (Or.inl ⟨by kernel_rfl, fun _ hS => ld_mp _ rfl ⟨p, 0, none⟩ rfl _ (HCP0.out _ hS)⟩) hHeld ?_
  (try simp only [Act.put, List.getElem_toArray, List.getElem_cons_succ, List.getElem_cons_zero, List.setIfInBounds_toArray, List.set_cons_zero, List.set_cons_succ])
  refine wpAnyH_take (i := 4) (v := .agg #[.int .i64 ra, .int .i64 rn, .int .i64 ca, .int .i64 cn]) rfl (by kernel_rfl) (by kernel_rfl) (by kernel_rfl) (fun _ _ _ h => h) (yieldsIf_load_mid (by kernel_rfl) 45 _ rfl b 0 rfl [.int .i64 ra, .int .i64 rn, .int .i64 ca, .int .i64 cn] _ (fun _ hS => HRG.out _ hS) undCell rfl infCell) hHeld ?_
  (try simp only [Act.put, List.getElem_toArray, List.getElem_cons_succ, List.getElem_cons_zero, List.setIfInBounds_toArray, List.set_cons_zero, List.set_cons_succ])
  refine wpAnyH_take (i := 5) (v := (.tuple #[.agg cs, .bool false])) rfl (by kernel_rfl) (by kernel_rfl) (by kernel_rfl) (fun _ _ _ h => h) (Or.inl ⟨by kernel_rfl, fun _ hS => lk_run (mv := .map (some g)) (kv := .agg #[.int .i64 ra, .int .i64 rn, .int .i64 ca, .int .i64 cn]) _ _ rfl rfl rfl (HL.out _ hS)⟩) hHeld ?_
  (try simp only [Act.put, List.getElem_toArray, List.getElem_cons_succ, List.getElem_cons_zero, List.setIfInBounds_toArray, List.set_cons_zero, List.set_cons_succ])
  refine wpAnyH_take (i := 6) (v := (.tuple #[.agg cs, .bool false])) rfl (by kernel_rfl) (by kernel_rfl) (by kernel_rfl) (fun _ _ _ h => h) (Or.inl ⟨by kernel_rfl, fun _ hS => by kernel_rfl⟩) hHeld ?_
  (try simp only [Act.put, List.getElem_toArray, List.getElem_cons_succ, List.getElem_cons_zero, List.setIfInBounds_toArray, List.set_cons_zero, List.set_cons_succ])
  refine wpAnyH_take (i := 7) (v := (.agg cs)) rfl (by kernel_rfl) (by kernel_rfl) (by kernel_rfl) (fun _ _ _ h => h) (Or.inl ⟨by kernel_rfl, fun _ hS => by kernel_rfl⟩) hHeld ?_
  (try simp only [Act.put, List.getElem_toArray, List.getElem_cons_succ, List.getElem_cons_zero, List.setIfInBounds_toArray, List.set_cons_zero, List.set_cons_succ])
  refine wpAnyH_take (i := 8) (v := (.bool false)) rfl (by kernel_rfl) (by kernel_rfl) (by kernel_rfl) (fun _ _ _ h => h) (Or.inl ⟨by kernel_rfl, fun _ hS => by kernel_rfl⟩) hHeld ?_
  (try simp only [Act.put, List.getElem_toArray, List.getElem_cons_succ, List.getElem_cons_zero, List.setIfInBounds_toArray, List.set_cons_zero, List.set_cons_succ])
  refine wpAnyH_contVar (i := 9) (by kernel_rfl) rfl rfl rfl q HZ0.out (HS1.out) (fun hHeld => ?_)
  (try simp only [Act.put, List.getElem_toArray, List.getElem_cons_succ, List.getElem_cons_zero, List.setIfInBounds_toArray, List.set_cons_zero, List.set_cons_succ])
  refine wpAnyH_storeFresh (i := 10) (by kernel_rfl) rfl rfl 36 _ _ rfl q HZ0.out cs rfl rfl HIXC.out HZX.out HOX.out HS2.out (fun hHeld => ?_)
  (try simp only [Act.put, List.getElem_toArray, List.getElem_cons_succ, List.getElem_cons_zero])
  refine wpAnyH_take (i := 11) (v := (.bool false)) rfl (by kernel_rfl) (by kernel_rfl) (by kernel_rfl) (fun _ _ _ h => h) (Or.inl ⟨by kernel_rfl, fun _ hS => by kernel_rfl⟩) hHeld ?_
  (try simp only [Act.put, List.getElem_toArray, List.getElem_cons_succ, List.getElem_cons_zero, List.setIfInBounds_toArray, List.set_cons_zero, List.set_cons_succ])
  refine wpAnyH_done (by kernel_rfl) ?_ _
  rw [← HW3.out]
  have hst3 := HST.out W3 HB3.out
  have hc3 : W3.cell? ⟨p, 0, none⟩ = some (.map (some g)) := cell_of_row _ _ 0 _ _ _ hst3.1
  have ho3 : W3.ownsMap Tryd.prog 45 heldR g n D := hst3.2
  have hlen := ho3.len undMp 3
  rw [← HSZ.out] at hlen
  have heq := eqMapN
  have HO3 := Lib.hid ho3
  have HP3 := Lib.hid hst3.1
  clear hst3 ho3
  have hr10 : decide ((10000 : Int) ≤ (sz : Int)) = true := decide_eq_true (by omega)
  clear hroom
  go_wp2
  go_ret
  exact ⟨rfl, HBEL.out.trans (HB3.out.mono HBEL.out.size)⟩

set_option maxRecDepth 100000 in
set_option maxHeartbeats 4000000 in
theorem put_empty (w : World) (p g n : Nat) (D : DataW Value) (h : StAt w p (some g) n D) (a : Ad) (ha : a.ok) (his : a.is = true) (x : Ct) (A : Option Addr) (c : Nat) (hx1 : x.k = 0) (hr : rightC x = true) (hv : x.v.ok) (hd : x.t.d.ok) (B : Nat) (hs : SlAt w B A c x.t.l) (hB : B ≤ w.heap.size) (hsz : x.t.size ≤ 1099511627776) :
    Calls Tryd.prog 10 #[.pointer (some ⟨p, 0, none⟩), a.val, contV x A c] w fun e w' => e = .returned (.int .i64 0) ∧ StAt w' p (some g) n (D.del a.key) ∧ KeepP p (some g) w w' := by
  obtain ⟨ra, rn, ca, cn⟩ := a
  obtain ⟨W0, hW0⟩ : ∃ W0, W0 = (w.alloc (.cells #[.int .i64 ra, .int .i64 rn, .int .i64 ca, .int .i64 cn] 45)).alloc (.cells (contA x A c) 36) := ⟨_, rfl⟩
  have hbel : Below w.heap.size w W0 := by rw [hW0]; exact ((Below.refl _ w).alloc (Nat.le_refl _) _).alloc (by simp) _
  have hz0 : W0.heap.size = w.heap.size + 2 := by rw [hW0]; simp
  have hk0 : W0.heap[w.heap.size]? = some (.cells #[.int .i64 ra, .int .i64 rn, .int .i64 ca, .int .i64 cn] 45) := by rw [hW0]; exact (heapOld _ _ _ (by simp)).trans (heap_alloc_new _ _)
  have hk1 : W0.heap[w.heap.size + 1]? = some (.cells (contA x A c) 36) := by
    rw [hW0]
    have := heap_alloc_new (w.alloc (.cells #[.int .i64 ra, .int .i64 rn, .int .i64 ca, .int .i64 cn] 45)) (.cells (contA x A c) 36)
    rwa [World.size_alloc] at this
  have hpl : p < w.heap.size := (Array.getElem?_eq_some_iff.1 h.1).1
  have hgl : g < w.heap.size := by have : w.ownsMap Tryd.prog 45 heldR g n D := h.2; exact this.lt
  have hpg : p ≠ g := fun e => by
    have h1 := h.1
    obtain ⟨es, clock, e1, -⟩ := h.2
    rw [e, e1] at h1; cases h1
  have HPG := Lib.hid hpg
  clear hpg
  have hst : ∀ wx, Below W0.heap.size W0 wx → StAt wx p (some g) n D := fun wx hx => (h.below hbel).below hx
  have hI : ∀ wx, Calls Tryd.prog 20 #[.agg #[.int .i64 ra, .int .i64 rn, .int .i64 ca, .int .i64 cn]] wx fun e w' => e = .returned (.bool true) ∧ Below wx.heap.size wx w' := fun wx => by have := isCell_c ra rn ca cn wx; rw [show isCellB ra rn ca cn = true from his] at this; exact this
  have hR : ∀ wx, Below W0.heap.size W0 wx → Calls Tryd.prog 15 #[contV x A c] wx fun e w' => e = .returned (.bool true) ∧ Below wx.heap.size wx w' := fun wx hx => by
    have := cright_c x wx B A c hv hd ((hs.below (hbel.mono hB)).below (hx.mono (by omega))) (by have := hx.size; omega) hsz
    rwa [hr] at this
  have hkk : ∀ wx, Below W0.heap.size W0 wx → wx.cell? ⟨w.heap.size + 1, 0, none⟩ = some (.int .i64 0) := fun wx hx => by rw [← hx1]; exact (cont_row ((hx.block (w.heap.size + 1) (by omega)).trans hk1)).1
  have hka : ∀ wx, Below W0.heap.size W0 wx → wx.heap[w.heap.size + 1]? = some (.cells (contA x A c) 36) := fun wx hx => (hx.block (w.heap.size + 1) (by omega)).trans hk1
  have hkb : ∀ wx, Below W0.heap.size W0 wx → wx.heap[w.heap.size]? = some (.cells #[.int .i64 ra, .int .i64 rn, .int .i64 ca, .int .i64 cn] 45) := fun wx hx => (hx.block w.heap.size (by omega)).trans hk0
  have hix : (Tryd.prog.info? 36).map (·.size) = some (contA x A c).size := infC
  rw [contV] at hR
  obtain ⟨CA, hCA⟩ : ∃ C, C = contA x A c := ⟨_, rfl⟩
  obtain ⟨b, hb⟩ : ∃ b, b = w.heap.size := ⟨_, rfl⟩
  rw [show contV x A c = .agg CA by rw [hCA]]
  simp only [← hCA] at hka hR hix hW0
  have hil : (Tryd.prog.info? 36).map (·.size) = some CA.toList.length := by rw [Array.length_toList]; exact hix
  rw [← hb] at hka hkb hkk hpl hgl hz0
  simp only [Ad.val]
  have HW0 := Lib.hid hW0
  have HST := Lib.hid hst
  have HI := Lib.hid hI
  have HR := Lib.hid hR
  have HKK := Lib.hid hkk
  have HKA := Lib.hid hka
  have HKB := Lib.hid hkb
  have HIX := Lib.hid hix
  have HIL := Lib.hid hil
  have HA := Lib.hid ha
  have HB := Lib.hid hb
  have HBEL := Lib.hid hbel
  have HPL := Lib.hid hpl
  have HGL := Lib.hid hgl
  have HZ := Lib.hid hz0
  clear hW0 hst hI hR hkk hka hkb hix hil ha hb hbel hk0 hk1 hCA hs hd hv hr hx1 h his hsz hpl hgl hz0 hB
  have hb00 : Below W0.heap.size W0 W0 := Below.refl _ _
  have hrgb : ∀ wx, Below W0.heap.size W0 wx → wx.rangeAt b 0 [.int .i64 ra, .int .i64 rn, .int .i64 ca, .int .i64 cn] := fun wx hx => ad_range (HKB.out wx hx)
  have HRGB := Lib.hid hrgb
  clear hrgb
  go_enter Tryd.func10, Tryd.ntmps10
  go_upto_region 1 with (fail)
  rw [← HW0.out, ← HB.out]
  go_wp2_with (first | (refine wpList_mid rfl 45 _ rfl b 0 rfl _ _ (HRGB.out _ hb00) undCell rfl infCell ?_) | (go_at_call 20; refine (HI.out W0).mono ?_; rintro e w1 ⟨rfl, hb1⟩) | (refine wpList_row rfl 36 _ rfl (b + 1) rfl 36 CA (0, 0) _ (HKA.out _ hb1) undC rfl HIX.out ?_) | (go_at_call 15; refine (HR.out _ hb1).mono ?_; rintro e w2 ⟨rfl, hbr⟩; have hb2 := hb1.trans (hbr.mono hb1.size); have hkc := HKK.out _ hb2))
  clear hb1 hbr hb00 hkc
  have hst2 := HST.out w2 hb2
  have hc2 : w2.cell? ⟨p, 0, none⟩ = some (.map (some g)) := cell_of_row _ _ 0 _ _ _ hst2.1
  have ho2 : w2.ownsMap Tryd.prog 45 heldR g n D := hst2.2
  have HO2 := Lib.hid ho2.drew
  have HP2 := Lib.hid hst2.1
  have hrg := HRGB.out w2 hb2
  have HRG := Lib.hid hrg
  clear hst2 ho2 hrg
  refine wp_region_still_tail 5 (by kernel_rfl) (by kernel_rfl) ?_
  simp only [List.take_succ_cons, List.take_zero, List.drop_succ_cons, List.drop_zero]
  iterate 4 still_step
  refine still_mid rfl 45 _ rfl b 0 rfl [.int .i64 ra, .int .i64 rn, .int .i64 ca, .int .i64 cn] _ HRG.out undCell rfl infCell ?_
  (try simp only [Act.put, List.setIfInBounds_toArray, List.set_cons_zero, List.set_cons_succ])
  refine wpStill_nil ?_
  change wpList _ _ _ _ _ w2.drew
  go_wp2_with (at_delete; refine wpList_delete_own _ rfl _ _ 56 45 rfl 36 cell_law undMp heldR g n D rfl HO2.out (Ad.val ⟨ra, rn, ca, cn⟩) _ rfl (key_eq ⟨ra, rn, ca, cn⟩ HA.out) ?_; intro w3 ho3 htn)
  go_ret
  have hg3 : w2.grownBy w3 (some g) := ⟨htn.grown.os, htn.grown.tape, htn.grown.output, htn.grown.size, htn.grown.block⟩
  have hp2 : p < w2.heap.size := (Array.getElem?_eq_some_iff.1 HP2.out).1
  refine ⟨rfl, ⟨(hg3.block p hp2 (fun e => HPG.out (Option.some.inj e))).trans HP2.out, ho3⟩, ?_⟩
  exact KeepP.then_map (KeepP.of_below (HBEL.out.trans (hb2.mono HBEL.out.size))) hg3 (.inl rfl)

end Go.Proofs.YtelombedjkbckaaDoor
namespace Go.Proofs.YtelombedjkbckaaDoor
open Go Go.RowKit Go.Shelf Go.Maps

def keyAt (i : Nat) : Ad := ⟨0, 1 + ((i / 100 : Nat) : Int), 0, 1 + ((i % 100 : Nat) : Int)⟩
theorem keyAt_ok {i : Nat} (h : i < 10000) : (keyAt i).ok := by
  unfold Ad.ok i64 keyAt
  dsimp only
  omega
theorem is_row {ra rn ca cn : Int} (h1 : ¬ (ra = 0 ∧ rn = 0)) (h2 : ¬ (ca = 0 ∧ cn = 0)) : isCellB ra rn ca cn = true := by
  unfold isCellB
  rw [decide_eq_false h1, decide_eq_false h2]; rfl
theorem keyAt_is (i : Nat) : (keyAt i).is = true := is_row (by show ¬ ((0 : Int) = 0 ∧ 1 + ((i / 100 : Nat) : Int) = 0); omega) (by show ¬ ((0 : Int) = 0 ∧ 1 + ((i % 100 : Nat) : Int) = 0); omega)
theorem keyAt_inj {i j : Nat} (h : keyAt i = keyAt j) : i = j := by
  simp only [keyAt, Ad.mk.injEq] at h
  omega
def fiveV : DataW Value := .held (contV (plainC fiveC) none 0)
def fullD : Nat → DataW Value
  | 0 => .map []
  | k + 1 => (fullD k).put (keyAt k).key fiveV
theorem full_tidy : ∀ k, k ≤ 10000 → Tidy (fullD k)
  | 0, _ => tidy_empty
  | k + 1, h => (full_tidy k (by omega)).put (cell_law.key (key_eq _ (keyAt_ok (by omega)))) _
theorem full_has (a : Ad) (ha : a.ok) : ∀ k, k ≤ 10000 → (Maps.has (fullD k) a.key = true ↔ ∃ i, i < k ∧ keyAt i = a)
  | 0, _ => by
    constructor
    · intro h; cases h
    · rintro ⟨i, h, _⟩; omega
  | k + 1, h => by
    have ih := full_has a ha k (by omega)
    by_cases e : keyAt k = a
    · subst e
      refine ⟨fun _ => ⟨k, by omega, rfl⟩, fun _ => ?_⟩
      exact Maps.has_put_same (full_tidy k (by omega)).isMap (cell_law.key (key_eq _ ha)) _
    · have hne : a.key ≠ (keyAt k).key := fun e' => e (key_inj ha (keyAt_ok (by omega)) e').symm
      rw [fullD, Maps.has_put_other hne, ih]
      constructor
      · rintro ⟨i, h1, h2⟩; exact ⟨i, by omega, h2⟩
      · rintro ⟨i, h1, h2⟩
        rcases Nat.lt_or_ge i k with h3 | h3
        · exact ⟨i, h3, h2⟩
        · obtain rfl : i = k := by omega
          exact absurd h2 e
theorem full_new {k : Nat} (h : k < 10000) : Maps.has (fullD k) (keyAt k).key = false := by
  rw [Bool.eq_false_iff]
  intro h'
  obtain ⟨i, h1, h2⟩ := (full_has _ (keyAt_ok h) k (by omega)).1 h'
  have := keyAt_inj h2
  omega
theorem full_size : ∀ k, k ≤ 10000 → Maps.size (fullD k) = k
  | 0, _ => rfl
  | k + 1, h => by
    rw [fullD, Maps.size_put (full_tidy k (by omega)), full_new (by omega), full_size k (by omega)]
    rfl
/-- another cell. -/
def otherAt (n : Int) : Ad := ⟨1 + n, 1, 0, 1⟩
def thereAt (n : Int) : Ad := ⟨0, 1 + n % 100, 0, 1⟩
theorem otherAt_ok {n : Int} (h0 : 0 ≤ n) (h1 : n ≤ 255) : (otherAt n).ok := by
  unfold Ad.ok i64 otherAt
  dsimp only
  omega
theorem thereAt_ok (n : Int) : (thereAt n).ok := by
  unfold Ad.ok i64 thereAt
  dsimp only
  omega
theorem otherAt_is (n : Int) : (otherAt n).is = true := is_row (by show ¬ (1 + n = 0 ∧ (1 : Int) = 0); omega) (by show ¬ ((0 : Int) = 0 ∧ (1 : Int) = 0); omega)
theorem thereAt_is {n : Int} (_h0 : 0 ≤ n) : (thereAt n).is = true := is_row (by show ¬ ((0 : Int) = 0 ∧ 1 + n % 100 = 0); omega) (by show ¬ ((0 : Int) = 0 ∧ (1 : Int) = 0); omega)
theorem there_key {n : Int} (h0 : 0 ≤ n) (h1 : n ≤ 255) : thereAt n = keyAt ((n.toNat % 100) * 100) := by
  simp only [thereAt, keyAt, Ad.mk.injEq, true_and]
  omega
theorem other_there {n : Int} (h0 : 0 ≤ n) (h1 : n ≤ 255) : (otherAt n).key ≠ (thereAt n).key := fun e => by
  have := key_inj (otherAt_ok h0 h1) (thereAt_ok n) e
  simp only [otherAt, thereAt, Ad.mk.injEq] at this
  omega
/-- the map, as it turns. -/
def d1 (n : Int) : DataW Value := (fullD 10000).del (thereAt n).key
def d2 (n : Int) : DataW Value := (d1 n).put (otherAt n).key fiveV
def d3 (n : Int) : DataW Value := (d2 n).put (otherAt n).key fiveV
theorem full_other {n : Int} (h0 : 0 ≤ n) (h1 : n ≤ 255) : Maps.has (fullD 10000) (otherAt n).key = false := by
  rw [Bool.eq_false_iff]
  intro h'
  obtain ⟨i, _, h2⟩ := (full_has _ (otherAt_ok h0 h1) 10000 (by omega)).1 h'
  simp only [otherAt, keyAt, Ad.mk.injEq] at h2
  omega
theorem full_del {n : Int} (h0 : 0 ≤ n) (h1 : n ≤ 255) : (fullD 10000).del (otherAt n).key = fullD 10000 := Maps.del_of_not_has (full_other h0 h1)
theorem full_there {n : Int} (h0 : 0 ≤ n) (h1 : n ≤ 255) : Maps.has (fullD 10000) (thereAt n).key = true :=
  (full_has _ (thereAt_ok n) 10000 (by omega)).2 ⟨(n.toNat % 100) * 100, by omega, (there_key h0 h1).symm⟩
theorem d1_size {n : Int} (h0 : 0 ≤ n) (h1 : n ≤ 255) : Maps.size (d1 n) = 9999 := by
  have := Maps.size_del (k := (thereAt n).key) (full_tidy 10000 (by omega))
  rw [full_there h0 h1, full_size 10000 (by omega)] at this
  simp only [if_true] at this
  unfold d1
  omega
theorem d1_other {n : Int} (h0 : 0 ≤ n) (h1 : n ≤ 255) : Maps.has (d1 n) (otherAt n).key = false := by
  unfold d1
  rw [Maps.has_del_other (other_there h0 h1), full_other h0 h1]
theorem d1_tidy (n : Int) : Tidy (d1 n) := (full_tidy 10000 (by omega)).del _
theorem d2_size {n : Int} (h0 : 0 ≤ n) (h1 : n ≤ 255) : Maps.size (d2 n) = 10000 := by
  unfold d2
  rw [Maps.size_put (d1_tidy n), d1_other h0 h1, d1_size h0 h1]
  rfl
theorem d2_there {n : Int} (h0 : 0 ≤ n) (h1 : n ≤ 255) : Maps.has (d2 n) (thereAt n).key = false := by
  unfold d2
  rw [Maps.has_put_other (other_there h0 h1).symm]
  unfold d1
  exact Maps.has_del_same
theorem d2_other {n : Int} (h0 : 0 ≤ n) (h1 : n ≤ 255) : Maps.has (d2 n) (otherAt n).key = true := Maps.has_put_same (d1_tidy n).isMap (cell_law.key (key_eq _ (otherAt_ok h0 h1))) _
end Go.Proofs.YtelombedjkbckaaDoor
