/- Put of a store of cells that is full; of nothing. All but a zone of blocks stays. No program in sight. Put of a store of cells: what may not be, what is empty; all cases, by zones. All of a store of cells: its iterator. All of a store of cells; regions that draw, within a round. The reference's Same of contents. Rows of cells with contents that lie in memory, as the reference has them. Len of a store of cells, nil or not. -/
import Derived.Test.YtelombedjkbckaaGreatDoorMhXcXdXd1Xc1RhXeXfXgShelfCaCo
import Derived.StillTailTactics
import Derived.Test.YtelombedjkbckaaGreatDoorNdSrRFWkSz
import Derived.Test.YtelombedjkbckaaGreatDoorZaZvOdOeOc
import Derived.Test.YtelombedjkbckaaGreatDoorTw
import Derived.Test.YtelombedjkbckaaGreatDoorC2RnC3C4C5SlC7
import Derived.OrdersHeld
import Derived.Test.YtelombedjkbckaaGreatDoorSqXaNmVrVsRlChCmCc
import Derived.Deep.RegionHeld
namespace Go.Proofs.YtelombedjkbckaaGreatDoor
open Go Go.RowKit Go.Shelf Go.Maps

set_option maxRecDepth 100000 in
set_option maxHeartbeats 4000000 in
theorem put_empty (w : World) (p g n : Nat) (D : DataW Value) (h : StAt w p (some g) n D) (a : Ad) (ha : a.ok) (his : a.is = true) (x : Ct) (A : Option Addr) (c : Nat) (hx1 : x.k = 0) (hr : rightC x = true) (hv : x.v.ok) (hd : x.t.d.ok) (B : Nat) (hs : SlAt w B A c x.t.l) (hB : B ≤ w.heap.size) (hsz : x.t.size ≤ 1099511627776) :
    Calls Tryz.prog 13 #[.pointer (some ⟨p, 0, none⟩), a.val, contV x A c] w fun e w' => e = .returned (.int .i64 0) ∧ StAt w' p (some g) n (D.del a.key) ∧ KeepP p (some g) w w' := by
 obtain ⟨ra, rn, ca, cn⟩ := a
 obtain ⟨W0, hW0⟩ : ∃ W0, W0 = (w.alloc (.cells #[.int .i64 ra, .int .i64 rn, .int .i64 ca, .int .i64 cn] 30)).alloc (.cells (contA x A c) 43) := ⟨_, rfl⟩
 have hbel : Below w.heap.size w W0 := by rw [hW0]; exact ((Below.refl _ w).alloc (Nat.le_refl _) _).alloc (by simp) _
 have hz0 : W0.heap.size = w.heap.size + 2 := by rw [hW0]; simp
 have hk0 : W0.heap[w.heap.size]? = some (.cells #[.int .i64 ra, .int .i64 rn, .int .i64 ca, .int .i64 cn] 30) := by rw [hW0]; exact (heapOld _ _ _ (by simp)).trans (heap_alloc_new _ _)
 have hk1 : W0.heap[w.heap.size + 1]? = some (.cells (contA x A c) 43) := by
  rw [hW0]
  have := heap_alloc_new (w.alloc (.cells #[.int .i64 ra, .int .i64 rn, .int .i64 ca, .int .i64 cn] 30)) (.cells (contA x A c) 43)
  rwa [World.size_alloc] at this
 have hpl : p < w.heap.size := (Jg h.1).1
 have hgl : g < w.heap.size := by have : w.ownsMap Tryz.prog 30 heldR g n D := h.2; exact this.lt
 have hpg : p ≠ g := fun e => by
  have h1 := h.1
  obtain ⟨es, clock, e1, -⟩ := h.2
  rw [e, e1] at h1; cases h1
 have HPG := Jh hpg
 clear hpg
 have hst : ∀ wx, Below W0.heap.size W0 wx → StAt wx p (some g) n D := fun wx hx => (h.below hbel).below hx
 have hI : ∀ wx, Calls Tryz.prog 32 #[.agg #[.int .i64 ra, .int .i64 rn, .int .i64 ca, .int .i64 cn]] wx fun e w' => e = .returned (.bool true) ∧ Below wx.heap.size wx w' := fun wx => by have := isCell_c ra rn ca cn wx; rw [show isCellB ra rn ca cn = true from his] at this; exact this
 have hR : ∀ wx, Below W0.heap.size W0 wx → Calls Tryz.prog 24 #[contV x A c] wx fun e w' => e = .returned (.bool true) ∧ Below wx.heap.size wx w' := fun wx hx => by
  have := cright_c x wx B A c hv hd ((hs.below (hbel.mono hB)).below (hx.mono (by omega))) (by have := hx.size; omega) hsz
  rwa [hr] at this
 have hkk : ∀ wx, Below W0.heap.size W0 wx → wx.cell? ⟨w.heap.size + 1, 0, none⟩ = some (.int .i64 0) := fun wx hx => by rw [← hx1]; exact (cont_row ((hx.block (w.heap.size + 1) (by omega)).trans hk1)).1
 have hka : ∀ wx, Below W0.heap.size W0 wx → wx.heap[w.heap.size + 1]? = some (.cells (contA x A c) 43) := fun wx hx => (hx.block (w.heap.size + 1) (by omega)).trans hk1
 have hkb : ∀ wx, Below W0.heap.size W0 wx → wx.heap[w.heap.size]? = some (.cells #[.int .i64 ra, .int .i64 rn, .int .i64 ca, .int .i64 cn] 30) := fun wx hx => (hx.block w.heap.size (by omega)).trans hk0
 have hix : (Tryz.prog.info? 43).map (·.size) = some (contA x A c).size := infC
 rw [contV] at hR
 obtain ⟨CA, hCA⟩ : ∃ C, C = contA x A c := ⟨_, rfl⟩
 obtain ⟨b, hb⟩ : ∃ b, b = w.heap.size := ⟨_, rfl⟩
 rw [show contV x A c = .agg CA by rw [hCA]]
 simp only [← hCA] at hka hR hix hW0
 have hil : (Tryz.prog.info? 43).map (·.size) = some CA.toList.length := by rw [Array.length_toList]; exact hix
 rw [← hb] at hka hkb hkk hpl hgl hz0
 simp only [Ad.val]
 have HW0 := Jh hW0
 have HST := Jh hst
 have HI := Jh hI
 have HR := Jh hR
 have HKK := Jh hkk
 have HKA := Jh hka
 have HKB := Jh hkb
 have HIX := Jh hix
 have HIL := Jh hil
 have HA := Jh ha
 have HB := Jh hb
 have HBEL := Jh hbel
 have HPL := Jh hpl
 have HGL := Jh hgl
 have HZ := Jh hz0
 clear hW0 hst hI hR hkk hka hkb hix hil ha hb hbel hk0 hk1 hCA hs hd hv hr hx1 h his hsz hpl hgl hz0 hB
 have hb00 : Below W0.heap.size W0 W0 := Below.refl _ _
 have hrgb : ∀ wx, Below W0.heap.size W0 wx → wx.rangeAt b 0 [.int .i64 ra, .int .i64 rn, .int .i64 ca, .int .i64 cn] := fun wx hx => ad_range (HKB.out wx hx)
 have HRGB := Jh hrgb
 clear hrgb
 go_enter Tryz.func13, Tryz.ntmps13
 go_upto_region 1 with (fail)
 rw [← HW0.out, ← HB.out]
 go_wp2_with (first | (refine wpList_mid rfl 30 _ rfl b 0 rfl _ _ (HRGB.out _ hb00) undCell rfl infCell ?_) | (go_at_call 32; refine (HI.out W0).mono ?_; rintro e w1 ⟨rfl, hb1⟩) | (refine wpList_row rfl 43 _ rfl (b + 1) rfl 43 CA (0, 0) _ (HKA.out _ hb1) undC rfl HIX.out ?_) | (go_at_call 24; refine (HR.out _ hb1).mono ?_; rintro e w2 ⟨rfl, hbr⟩; have hb2 := hb1.trans (hbr.mono hb1.size); have hkc := HKK.out _ hb2))
 clear hb1 hbr hb00 hkc
 have hst2 := HST.out w2 hb2
 have hc2 : w2.cell? ⟨p, 0, none⟩ = some (.map (some g)) := cell_of_row _ _ 0 _ _ _ hst2.1
 have ho2 : w2.ownsMap Tryz.prog 30 heldR g n D := hst2.2
 have HO2 := Jh ho2.drew
 have HP2 := Jh hst2.1
 have hrg := HRGB.out w2 hb2
 have HRG := Jh hrg
 clear hst2 ho2 hrg
 refine wp_region_still_tail 5 (by kernel_rfl) (by kernel_rfl) ?_
 simp only [List.take_succ_cons, List.take_zero, List.drop_succ_cons, List.drop_zero]
 iterate 4 still_step
 refine still_mid rfl 30 _ rfl b 0 rfl [.int .i64 ra, .int .i64 rn, .int .i64 ca, .int .i64 cn] _ HRG.out undCell rfl infCell ?_
 (try simp only [Act.put, List.setIfInBounds_toArray, List.set_cons_zero, List.set_cons_succ])
 refine wpStill_nil ?_
 change wpList _ _ _ _ _ w2.drew
 go_wp2_with (at_delete; refine wpList_delete_own _ rfl _ _ 60 30 rfl 43 cell_law undMp heldR g n D rfl HO2.out (Ad.val ⟨ra, rn, ca, cn⟩) _ rfl (key_eq ⟨ra, rn, ca, cn⟩ HA.out) ?_; intro w3 ho3 htn)
 go_ret
 have hg3 : w2.grownBy w3 (some g) := ⟨htn.grown.os, htn.grown.tape, htn.grown.output, htn.grown.size, htn.grown.block⟩
 have hp2 : p < w2.heap.size := (Jg HP2.out).1
 refine ⟨rfl, ⟨(hg3.block p hp2 (fun e => HPG.out (Option.some.inj e))).trans HP2.out, ho3⟩, ?_⟩
 exact KeepP.then_map (KeepP.of_below (HBEL.out.trans (hb2.mono HBEL.out.size))) hg3 (.inl rfl)

end Go.Proofs.YtelombedjkbckaaGreatDoor
namespace Go.Proofs.YtelombedjkbckaaGreatDoor
open Go Go.RowKit Go.Shelf Go.Maps

/-- all but a zone stays. -/
structure KeepZ (Z : Nat → Prop) (w w' : World) : Prop where
 os : w'.os = w.os
 tape : w'.tape = w.tape
 output : w'.output = w.output
 size : w.heap.size ≤ w'.heap.size
 block : ∀ k, k < w.heap.size → ¬ Z k → w'.heap[k]? = w.heap[k]?
theorem KeepZ.refl (Z : Nat → Prop) (w : World) : KeepZ Z w w := ⟨rfl, rfl, rfl, Nat.le_refl _, fun _ _ _ => rfl⟩
theorem KeepZ.trans {Z : Nat → Prop} {a b c : World} (h : KeepZ Z a b) (h' : KeepZ Z b c) : KeepZ Z a c :=
 ⟨h'.os.trans h.os, h'.tape.trans h.tape, h'.output.trans h.output, Nat.le_trans h.size h'.size, fun k hk hn => (h'.block k (Nat.lt_of_lt_of_le hk h.size) hn).trans (h.block k hk hn)⟩
theorem KeepZ.of {Z : Nat → Prop} {a b : World} (h : Below a.heap.size a b) : KeepZ Z a b := ⟨h.os, h.tape, h.output, h.size, fun k hk _ => h.block k hk⟩
theorem KeepZ.mono {Z Z' : Nat → Prop} {a b : World} (h : KeepZ Z a b) (hz : ∀ k, Z k → Z' k) : KeepZ Z' a b := ⟨h.os, h.tape, h.output, h.size, fun k hk hn => h.block k hk (fun e => hn (hz k e))⟩
end Go.Proofs.YtelombedjkbckaaGreatDoor
namespace Go.Proofs.YtelombedjkbckaaGreatDoor
set_option linter.unusedSimpArgs false
set_option linter.unusedVariables false
open Go Go.RowKit Go.Shelf Go.Maps

set_option maxRecDepth 100000 in
set_option maxHeartbeats 4000000 in
theorem put_emptyN (w : World) (p : Nat) (n : Nat) (D : DataW Value) (h : StAt w p none n D) (a : Ad) (ha : a.ok) (his : a.is = true) (x : Ct) (A : Option Addr) (c : Nat) (hx1 : x.k = 0) (hr : rightC x = true) (hv : x.v.ok) (hd : x.t.d.ok) (B : Nat) (hs : SlAt w B A c x.t.l) (hB : B ≤ w.heap.size) (hsz : x.t.size ≤ 1099511627776) :
    Calls Tryz.prog 13 #[.pointer (some ⟨p, 0, none⟩), a.val, contV x A c] w fun e w' => e = .returned (.int .i64 0) ∧ Below w.heap.size w w' := by
 obtain ⟨ra, rn, ca, cn⟩ := a
 obtain ⟨W0, hW0⟩ : ∃ W0, W0 = (w.alloc (.cells #[.int .i64 ra, .int .i64 rn, .int .i64 ca, .int .i64 cn] 30)).alloc (.cells (contA x A c) 43) := ⟨_, rfl⟩
 have hbel : Below w.heap.size w W0 := by rw [hW0]; exact ((Below.refl _ w).alloc (Nat.le_refl _) _).alloc (by simp) _
 have hz0 : W0.heap.size = w.heap.size + 2 := by rw [hW0]; simp
 have hk0 : W0.heap[w.heap.size]? = some (.cells #[.int .i64 ra, .int .i64 rn, .int .i64 ca, .int .i64 cn] 30) := by rw [hW0]; exact (heapOld _ _ _ (by simp)).trans (heap_alloc_new _ _)
 have hk1 : W0.heap[w.heap.size + 1]? = some (.cells (contA x A c) 43) := by
  rw [hW0]
  have := heap_alloc_new (w.alloc (.cells #[.int .i64 ra, .int .i64 rn, .int .i64 ca, .int .i64 cn] 30)) (.cells (contA x A c) 43)
  rwa [World.size_alloc] at this
 have hpl : p < w.heap.size := (Jg h.1).1
 have hst : ∀ wx, Below W0.heap.size W0 wx → StAt wx p none n D := fun wx hx => (h.below hbel).below hx
 have hI : ∀ wx, Calls Tryz.prog 32 #[.agg #[.int .i64 ra, .int .i64 rn, .int .i64 ca, .int .i64 cn]] wx fun e w' => e = .returned (.bool true) ∧ Below wx.heap.size wx w' := fun wx => by have := isCell_c ra rn ca cn wx; rw [show isCellB ra rn ca cn = true from his] at this; exact this
 have hR : ∀ wx, Below W0.heap.size W0 wx → Calls Tryz.prog 24 #[contV x A c] wx fun e w' => e = .returned (.bool true) ∧ Below wx.heap.size wx w' := fun wx hx => by
  have := cright_c x wx B A c hv hd ((hs.below (hbel.mono hB)).below (hx.mono (by omega))) (by have := hx.size; omega) hsz
  rwa [hr] at this
 have hkk : ∀ wx, Below W0.heap.size W0 wx → wx.cell? ⟨w.heap.size + 1, 0, none⟩ = some (.int .i64 0) := fun wx hx => by rw [← hx1]; exact (cont_row ((hx.block (w.heap.size + 1) (by omega)).trans hk1)).1
 have hka : ∀ wx, Below W0.heap.size W0 wx → wx.heap[w.heap.size + 1]? = some (.cells (contA x A c) 43) := fun wx hx => (hx.block (w.heap.size + 1) (by omega)).trans hk1
 have hkb : ∀ wx, Below W0.heap.size W0 wx → wx.heap[w.heap.size]? = some (.cells #[.int .i64 ra, .int .i64 rn, .int .i64 ca, .int .i64 cn] 30) := fun wx hx => (hx.block w.heap.size (by omega)).trans hk0
 have hix : (Tryz.prog.info? 43).map (·.size) = some (contA x A c).size := infC
 rw [contV] at hR
 obtain ⟨CA, hCA⟩ : ∃ C, C = contA x A c := ⟨_, rfl⟩
 obtain ⟨b, hb⟩ : ∃ b, b = w.heap.size := ⟨_, rfl⟩
 rw [show contV x A c = .agg CA by rw [hCA]]
 simp only [← hCA] at hka hR hix hW0
 have hil : (Tryz.prog.info? 43).map (·.size) = some CA.toList.length := by rw [Array.length_toList]; exact hix
 rw [← hb] at hka hkb hkk hpl hz0
 simp only [Ad.val]
 have HW0 := Jh hW0
 have HST := Jh hst
 have HI := Jh hI
 have HR := Jh hR
 have HKK := Jh hkk
 have HKA := Jh hka
 have HKB := Jh hkb
 have HIX := Jh hix
 have HIL := Jh hil
 have HA := Jh ha
 have HB := Jh hb
 have HBEL := Jh hbel
 have HPL := Jh hpl
 have HZ := Jh hz0
 clear hW0 hst hI hR hkk hka hkb hix hil ha hb hbel hk0 hk1 hCA hs hd hv hr hx1 h his hsz hpl hz0 hB
 have hb00 : Below W0.heap.size W0 W0 := Below.refl _ _
 have hrgb : ∀ wx, Below W0.heap.size W0 wx → wx.rangeAt b 0 [.int .i64 ra, .int .i64 rn, .int .i64 ca, .int .i64 cn] := fun wx hx => ad_range (HKB.out wx hx)
 have HRGB := Jh hrgb
 clear hrgb
 go_enter Tryz.func13, Tryz.ntmps13
 go_upto_region 1 with (fail)
 rw [← HW0.out, ← HB.out]
 go_wp2_with (first | (refine wpList_mid rfl 30 _ rfl b 0 rfl _ _ (HRGB.out _ hb00) undCell rfl infCell ?_) | (go_at_call 32; refine (HI.out W0).mono ?_; rintro e w1 ⟨rfl, hb1⟩) | (refine wpList_row rfl 43 _ rfl (b + 1) rfl 43 CA (0, 0) _ (HKA.out _ hb1) undC rfl HIX.out ?_) | (go_at_call 24; refine (HR.out _ hb1).mono ?_; rintro e w2 ⟨rfl, hbr⟩; have hb2 := hb1.trans (hbr.mono hb1.size); have hkc := HKK.out _ hb2))
 clear hb1 hbr hb00 hkc
 have hst2 := HST.out w2 hb2
 have hc2 : w2.cell? ⟨p, 0, none⟩ = some (.map none) := cell_of_row _ _ 0 _ _ _ hst2.1
 have hrg := HRGB.out w2 hb2
 have HRG := Jh hrg
 have hdl : ∀ (wx : World) (ty : TypeId), (Builtin.delete_ #[60, 30] ty #[.map none, .agg #[.int .i64 ra, .int .i64 rn, .int .i64 ca, .int .i64 cn]]).run Tryz.prog wx = .ok (.tuple #[]) wx := fun wx ty => Maps.drop_nil (w := wx) cell_law undMp (key_eq ⟨ra, rn, ca, cn⟩ HA.out) ty
 clear hst2 hrg
 refine wp_region_still_tail 5 (by kernel_rfl) (by kernel_rfl) ?_
 simp only [List.take_succ_cons, List.take_zero, List.drop_succ_cons, List.drop_zero]
 iterate 4 still_step
 refine still_mid rfl 30 _ rfl b 0 rfl [.int .i64 ra, .int .i64 rn, .int .i64 ca, .int .i64 cn] _ HRG.out undCell rfl infCell ?_
 (try simp only [Act.put, List.setIfInBounds_toArray, List.set_cons_zero, List.set_cons_succ])
 refine wpStill_nil ?_
 change wpList _ _ _ _ _ w2.drew
 go_wp2
 first | go_ret | go_ret2
 exact ⟨rfl, (HBEL.out.trans (hb2.mono HBEL.out.size)).drew⟩

set_option maxRecDepth 100000 in
set_option maxHeartbeats 4000000 in
theorem put_nocell (w : World) (p : Nat) (m : Option Nat) (n : Nat) (D : DataW Value) (h : StAt w p m n D) (a : Ad) (ha : a.ok) (his : a.is = false) (x : Ct) (A : Option Addr) (c : Nat) (hv : x.v.ok) (hd : x.t.d.ok) (B : Nat) (hs : SlAt w B A c x.t.l) (hB : B ≤ w.heap.size) (hsz : x.t.size ≤ 1099511627776) :
    Calls Tryz.prog 13 #[.pointer (some ⟨p, 0, none⟩), a.val, contV x A c] w fun e w' => e = .returned (.int .i64 1) ∧ Below w.heap.size w w' := by
 obtain ⟨ra, rn, ca, cn⟩ := a
 obtain ⟨W0, hW0⟩ : ∃ W0, W0 = (w.alloc (.cells #[.int .i64 ra, .int .i64 rn, .int .i64 ca, .int .i64 cn] 30)).alloc (.cells (contA x A c) 43) := ⟨_, rfl⟩
 have hbel : Below w.heap.size w W0 := by rw [hW0]; exact ((Below.refl _ w).alloc (Nat.le_refl _) _).alloc (by simp) _
 have hz0 : W0.heap.size = w.heap.size + 2 := by rw [hW0]; simp
 have hk0 : W0.heap[w.heap.size]? = some (.cells #[.int .i64 ra, .int .i64 rn, .int .i64 ca, .int .i64 cn] 30) := by rw [hW0]; exact (heapOld _ _ _ (by simp)).trans (heap_alloc_new _ _)
 have hk1 : W0.heap[w.heap.size + 1]? = some (.cells (contA x A c) 43) := by
  rw [hW0]
  have := heap_alloc_new (w.alloc (.cells #[.int .i64 ra, .int .i64 rn, .int .i64 ca, .int .i64 cn] 30)) (.cells (contA x A c) 43)
  rwa [World.size_alloc] at this
 have hpl : p < w.heap.size := (Jg h.1).1
 have hst : ∀ wx, Below W0.heap.size W0 wx → StAt wx p m n D := fun wx hx => (h.below hbel).below hx
 have hI : ∀ wx, Calls Tryz.prog 32 #[.agg #[.int .i64 ra, .int .i64 rn, .int .i64 ca, .int .i64 cn]] wx fun e w' => e = .returned (.bool false) ∧ Below wx.heap.size wx w' := fun wx => by have := isCell_c ra rn ca cn wx; rw [show isCellB ra rn ca cn = false from his] at this; exact this
 have hka : ∀ wx, Below W0.heap.size W0 wx → wx.heap[w.heap.size + 1]? = some (.cells (contA x A c) 43) := fun wx hx => (hx.block (w.heap.size + 1) (by omega)).trans hk1
 have hkb : ∀ wx, Below W0.heap.size W0 wx → wx.heap[w.heap.size]? = some (.cells #[.int .i64 ra, .int .i64 rn, .int .i64 ca, .int .i64 cn] 30) := fun wx hx => (hx.block w.heap.size (by omega)).trans hk0
 have hix : (Tryz.prog.info? 43).map (·.size) = some (contA x A c).size := infC
 obtain ⟨CA, hCA⟩ : ∃ C, C = contA x A c := ⟨_, rfl⟩
 obtain ⟨b, hb⟩ : ∃ b, b = w.heap.size := ⟨_, rfl⟩
 rw [show contV x A c = .agg CA by rw [hCA]]
 simp only [← hCA] at hka hix hW0
 have hil : (Tryz.prog.info? 43).map (·.size) = some CA.toList.length := by rw [Array.length_toList]; exact hix
 rw [← hb] at hka hkb hpl hz0
 simp only [Ad.val]
 have HW0 := Jh hW0
 have HST := Jh hst
 have HI := Jh hI
 have HKA := Jh hka
 have HKB := Jh hkb
 have HIX := Jh hix
 have HIL := Jh hil
 have HA := Jh ha
 have HB := Jh hb
 have HBEL := Jh hbel
 have HPL := Jh hpl
 have HZ := Jh hz0
 clear hW0 hst hI hka hkb hix hil ha hb hbel hk0 hk1 hCA hs hd hv h his hsz hpl hz0 hB
 have hb00 : Below W0.heap.size W0 W0 := Below.refl _ _
 have hrgb : ∀ wx, Below W0.heap.size W0 wx → wx.rangeAt b 0 [.int .i64 ra, .int .i64 rn, .int .i64 ca, .int .i64 cn] := fun wx hx => ad_range (HKB.out wx hx)
 have HRGB := Jh hrgb
 clear hrgb
 go_enter Tryz.func13, Tryz.ntmps13
 go_upto_region 1 with (fail)
 rw [← HW0.out, ← HB.out]
 go_wp2_with (first | (refine wpList_mid rfl 30 _ rfl b 0 rfl _ _ (HRGB.out _ hb00) undCell rfl infCell ?_) | (go_at_call 32; refine (HI.out W0).mono ?_; rintro e w1 ⟨rfl, hb1⟩))
 first | go_ret | go_ret2
 exact ⟨rfl, HBEL.out.trans (hb1.mono HBEL.out.size)⟩

set_option maxRecDepth 100000 in
set_option maxHeartbeats 4000000 in
theorem put_wrong (w : World) (p : Nat) (m : Option Nat) (n : Nat) (D : DataW Value) (h : StAt w p m n D) (a : Ad) (ha : a.ok) (his : a.is = true) (x : Ct) (A : Option Addr) (c : Nat) (hr : rightC x = false) (hv : x.v.ok) (hd : x.t.d.ok) (B : Nat) (hs : SlAt w B A c x.t.l) (hB : B ≤ w.heap.size) (hsz : x.t.size ≤ 1099511627776) :
    Calls Tryz.prog 13 #[.pointer (some ⟨p, 0, none⟩), a.val, contV x A c] w fun e w' => e = .returned (.int .i64 6) ∧ Below w.heap.size w w' := by
 obtain ⟨ra, rn, ca, cn⟩ := a
 obtain ⟨W0, hW0⟩ : ∃ W0, W0 = (w.alloc (.cells #[.int .i64 ra, .int .i64 rn, .int .i64 ca, .int .i64 cn] 30)).alloc (.cells (contA x A c) 43) := ⟨_, rfl⟩
 have hbel : Below w.heap.size w W0 := by rw [hW0]; exact ((Below.refl _ w).alloc (Nat.le_refl _) _).alloc (by simp) _
 have hz0 : W0.heap.size = w.heap.size + 2 := by rw [hW0]; simp
 have hk0 : W0.heap[w.heap.size]? = some (.cells #[.int .i64 ra, .int .i64 rn, .int .i64 ca, .int .i64 cn] 30) := by rw [hW0]; exact (heapOld _ _ _ (by simp)).trans (heap_alloc_new _ _)
 have hk1 : W0.heap[w.heap.size + 1]? = some (.cells (contA x A c) 43) := by
  rw [hW0]
  have := heap_alloc_new (w.alloc (.cells #[.int .i64 ra, .int .i64 rn, .int .i64 ca, .int .i64 cn] 30)) (.cells (contA x A c) 43)
  rwa [World.size_alloc] at this
 have hpl : p < w.heap.size := (Jg h.1).1
 have hst : ∀ wx, Below W0.heap.size W0 wx → StAt wx p m n D := fun wx hx => (h.below hbel).below hx
 have hI : ∀ wx, Calls Tryz.prog 32 #[.agg #[.int .i64 ra, .int .i64 rn, .int .i64 ca, .int .i64 cn]] wx fun e w' => e = .returned (.bool true) ∧ Below wx.heap.size wx w' := fun wx => by have := isCell_c ra rn ca cn wx; rw [show isCellB ra rn ca cn = true from his] at this; exact this
 have hR : ∀ wx, Below W0.heap.size W0 wx → Calls Tryz.prog 24 #[contV x A c] wx fun e w' => e = .returned (.bool false) ∧ Below wx.heap.size wx w' := fun wx hx => by
  have := cright_c x wx B A c hv hd ((hs.below (hbel.mono hB)).below (hx.mono (by omega))) (by have := hx.size; omega) hsz
  rwa [hr] at this
 have hka : ∀ wx, Below W0.heap.size W0 wx → wx.heap[w.heap.size + 1]? = some (.cells (contA x A c) 43) := fun wx hx => (hx.block (w.heap.size + 1) (by omega)).trans hk1
 have hkb : ∀ wx, Below W0.heap.size W0 wx → wx.heap[w.heap.size]? = some (.cells #[.int .i64 ra, .int .i64 rn, .int .i64 ca, .int .i64 cn] 30) := fun wx hx => (hx.block w.heap.size (by omega)).trans hk0
 have hix : (Tryz.prog.info? 43).map (·.size) = some (contA x A c).size := infC
 rw [contV] at hR
 obtain ⟨CA, hCA⟩ : ∃ C, C = contA x A c := ⟨_, rfl⟩
 obtain ⟨b, hb⟩ : ∃ b, b = w.heap.size := ⟨_, rfl⟩
 rw [show contV x A c = .agg CA by rw [hCA]]
 simp only [← hCA] at hka hR hix hW0
 have hil : (Tryz.prog.info? 43).map (·.size) = some CA.toList.length := by rw [Array.length_toList]; exact hix
 rw [← hb] at hka hkb hpl hz0
 simp only [Ad.val]
 have HW0 := Jh hW0
 have HST := Jh hst
 have HI := Jh hI
 have HR := Jh hR
 have HKA := Jh hka
 have HKB := Jh hkb
 have HIX := Jh hix
 have HIL := Jh hil
 have HA := Jh ha
 have HB := Jh hb
 have HBEL := Jh hbel
 have HPL := Jh hpl
 have HZ := Jh hz0
 clear hW0 hst hI hR hka hkb hix hil ha hb hbel hk0 hk1 hCA hs hd hv hr h his hsz hpl hz0 hB
 have hb00 : Below W0.heap.size W0 W0 := Below.refl _ _
 have hrgb : ∀ wx, Below W0.heap.size W0 wx → wx.rangeAt b 0 [.int .i64 ra, .int .i64 rn, .int .i64 ca, .int .i64 cn] := fun wx hx => ad_range (HKB.out wx hx)
 have HRGB := Jh hrgb
 clear hrgb
 go_enter Tryz.func13, Tryz.ntmps13
 go_upto_region 1 with (fail)
 rw [← HW0.out, ← HB.out]
 go_wp2_with (first | (refine wpList_mid rfl 30 _ rfl b 0 rfl _ _ (HRGB.out _ hb00) undCell rfl infCell ?_) | (go_at_call 32; refine (HI.out W0).mono ?_; rintro e w1 ⟨rfl, hb1⟩) | (refine wpList_row rfl 43 _ rfl (b + 1) rfl 43 CA (0, 0) _ (HKA.out _ hb1) undC rfl HIX.out ?_) | (go_at_call 24; refine (HR.out _ hb1).mono ?_; rintro e w2 ⟨rfl, hbr⟩; have hb2 := hb1.trans (hbr.mono hb1.size)))
 first | go_ret | go_ret2
 exact ⟨rfl, HBEL.out.trans (hb2.mono HBEL.out.size)⟩

/-- what Put makes of a row of cells, and what it answers, where there is room. -/
def putR (M : List (Ad × Ct)) (a : Ad) (x : Ct) : List (Ad × Ct) × Int :=
 if a.is = false then (M, 1) else if rightC x = false then (M, 6) else if x.k = 0 then (M.filter fun e => e.1 ≠ a, 0) else (putA a x false M, 0)
/-- a store of cells, in a zone. -/
def StZ (W : World) (p n : Nat) (M : List (Ad × Ct)) (Z : Nat → Prop) : Prop :=
 ∃ m D T, StAt W p m n D ∧ Rep W T D M ∧ Z p ∧ (∀ b, m = some b → Z b) ∧ ∀ b, T b → Z b ∧ b ≠ p ∧ m ≠ some b ∧ b < W.heap.size
theorem StZ.keep {W W' : World} {p n : Nat} {M : List (Ad × Ct)} {Z Z' : Nat → Prop} (h : StZ W p n M Z) (hk : KeepZ Z' W W') (hd : ∀ k, Z k → ¬ Z' k) : StZ W' p n M Z := by
 obtain ⟨m, D, T, ⟨h1, h2⟩, h3, h4, h5, h6⟩ := h
 refine ⟨m, D, T, ⟨(hk.block p (Jg h1).1 (hd p h4)).trans h1, ?_⟩, h3.keep (fun _ h => h) (fun b hb => hk.block b (h6 b hb).2.2.2 (hd b (h6 b hb).1)), h4, h5, fun b hb => ⟨(h6 b hb).1, (h6 b hb).2.1, (h6 b hb).2.2.1, Nat.lt_of_lt_of_le (h6 b hb).2.2.2 hk.size⟩⟩
 cases m with
 | none => exact h2
 | some g =>
  obtain ⟨es, clock, e1, e2⟩ := h2
  exact ⟨es, clock, (hk.block g (Jg e1).1 (hd g (h5 g rfl))).trans e1, e2⟩
theorem StZ.below {W W' : World} {p n : Nat} {M : List (Ad × Ct)} {Z : Nat → Prop} (h : StZ W p n M Z) (hb : Below W.heap.size W W') : StZ W' p n M Z := h.keep (Z' := fun _ => False) (KeepZ.of hb) (fun _ _ h => h)
theorem StZ.zone {W : World} {p n : Nat} {M : List (Ad × Ct)} {Z Z' : Nat → Prop} (h : StZ W p n M Z) (hz : ∀ b, Z b → Z' b) : StZ W p n M Z' := by
 obtain ⟨m, D, T, h1, h3, h4, h5, h6⟩ := h
 exact ⟨m, D, T, h1, h3, hz _ h4, fun b e => hz b (h5 b e), fun b hb => ⟨hz b (h6 b hb).1, (h6 b hb).2⟩⟩
theorem StZ.more {W : World} {p n n' : Nat} {M : List (Ad × Ct)} {Z : Nat → Prop} (h : StZ W p n M Z) (hn : n ≤ n') : StZ W p n' M Z := by
 obtain ⟨m, D, T, ⟨h1, h2⟩, h3, h4⟩ := h
 refine ⟨m, D, T, ⟨h1, ?_⟩, h3, h4⟩
 cases m with
 | none => exact h2
 | some g => exact World.ownsMap.mono h2 hn
/-- Put, in all cases but a store that is full. -/
theorem putZ_c {w : World} {p n : Nat} {M : List (Ad × Ct)} {Z : Nat → Prop} (h : StZ w p n M Z) (hn : n < 100000) (hM : M.length < 10000) (a : Ad) (ha : a.ok) (x : Ct) (A : Option Addr) (c : Nat) (hv : x.v.ok) (hd : x.t.d.ok) (hs : SlAt w w.heap.size A c x.t.l) (hsz : x.t.size ≤ 1048576) :
    Calls Tryz.prog 13 #[.pointer (some ⟨p, 0, none⟩), a.val, contV x A c] w fun e w' => e = .returned (.int .i64 (putR M a x).2) ∧ StZ w' p (n + 1) (putR M a x).1 (fun b => Z b ∨ (w.heap.size ≤ b ∧ b < w'.heap.size)) ∧ KeepZ Z w w' := by
 obtain ⟨m, D, T, hst, hrep, hp, hmz, hT⟩ := h
 have hold : ∀ w', Below w.heap.size w w' → StZ w' p (n + 1) M (fun b => Z b ∨ (w.heap.size ≤ b ∧ b < w'.heap.size)) ∧ KeepZ Z w w' := fun w' hb =>
  ⟨((StZ.below ⟨m, D, T, hst, hrep, hp, hmz, hT⟩ hb).zone (fun b h => .inl h)).more (by omega), KeepZ.of hb⟩
 have hkz : ∀ w', KeepP p m w w' → KeepZ Z w w' := fun w' hk => ⟨hk.os, hk.tape, hk.output, hk.size, fun k h1 h2 => hk.block k h1 (fun e => h2 (e ▸ hp)) (fun e => h2 (hmz k e))⟩
 have hTk : ∀ w', KeepP p m w w' → ∀ b, T b → w'.heap[b]? = w.heap[b]? := fun w' hk b hb => hk.block b (hT b hb).2.2.2 (hT b hb).2.1 (hT b hb).2.2.1
 unfold putR
 by_cases his : a.is = false
 · rw [if_pos his]
   refine (put_nocell w p m n D hst a ha his x A c hv hd w.heap.size hs (Nat.le_refl _) (by omega)).mono ?_
   rintro e w' ⟨rfl, hb⟩
   exact ⟨rfl, hold w' hb⟩
 rw [if_neg his]
 have his' : a.is = true := by simpa using his
 by_cases hr : rightC x = false
 · rw [if_pos hr]
   refine (put_wrong w p m n D hst a ha his' x A c hr hv hd w.heap.size hs (Nat.le_refl _) (by omega)).mono ?_
   rintro e w' ⟨rfl, hb⟩
   exact ⟨rfl, hold w' hb⟩
 rw [if_neg hr]
 have hr' : rightC x = true := by simpa using hr
 by_cases hk : x.k = 0
 · rw [if_pos hk]
   cases m with
   | none =>
    have hM0 : M = [] := by
     have hD : D = .map [] := hst.2
     have h1 := hrep.size
     rw [hD] at h1
     have h2 : Maps.size (DataW.map [] : DataW Value) = 0 := rfl
     exact List.length_eq_zero_iff.1 (by omega)
    refine (put_emptyN w p n D hst a ha his' x A c hk hr' hv hd w.heap.size hs (Nat.le_refl _) (by omega)).mono ?_
    rintro e w' ⟨rfl, hb⟩
    have h1 := hold w' hb
    rw [hM0] at h1 ⊢
    exact ⟨rfl, h1⟩
   | some g =>
    refine (put_empty w p g n D hst a ha his' x A c hk hr' hv hd w.heap.size hs (Nat.le_refl _) (by omega)).mono ?_
    rintro e w' ⟨rfl, hst', hkp⟩
    refine ⟨rfl, StZ.more ⟨some g, D.del a.key, T, hst', hrep.del (fun _ h => h) (hTk w' hkp) ha, .inl hp, fun b e => .inl (hmz b e), fun b hb => ⟨.inl (hT b hb).1, (hT b hb).2.1, (hT b hb).2.2.1, Nat.lt_of_lt_of_le (hT b hb).2.2.2 hkp.size⟩⟩ (by omega), hkz w' hkp⟩
 rw [if_neg hk]
 have hfit : x.fit := ⟨hv, hd, hsz, hr', hk⟩
 have hcp := right_cp hfit
 have hpl : p < w.heap.size := (Jg hst.1).1
 cases m with
 | none =>
  refine (put_noneC w p n D hst a ha his' x A c hk hr' hv hd w.heap.size hs (Nat.le_refl _) hsz).mono ?_
  rintro e w' ⟨rfl, g, A2, c2, hg1, hg2, hst', hsl, hkp⟩
  rw [hcp] at hst' hsl
  have hD : D = .map [] := hst.2
  refine ⟨rfl, StZ.more ⟨some g, _, fun b => T b ∨ (w.heap.size ≤ b ∧ b < w'.heap.size ∧ b ≠ g), hst', hrep.put (fun _ h => .inl h) (hTk w' hkp) ha hfit (hsl.keep (fun b _ h => .inr h) (fun _ _ _ _ _ => rfl)), .inl hp, fun b e => ?_, fun b hb => ?_⟩ (by omega), hkz w' hkp⟩
  · obtain rfl := Option.some.inj e
    exact .inr ⟨hg1, hg2⟩
  · rcases hb with hb | ⟨h1, h2, h3⟩
    · have := (hT b hb).2.2.2
      exact ⟨.inl (hT b hb).1, (hT b hb).2.1, fun e => by have := Option.some.inj e; omega, Nat.lt_of_lt_of_le this hkp.size⟩
    · exact ⟨.inr ⟨h1, h2⟩, by omega, fun e => h3 (Option.some.inj e).symm, h2⟩
 | some g =>
  have hgl : g < w.heap.size := by have : w.ownsMap Tryz.prog 30 heldR g n D := hst.2; exact this.lt
  refine (put_someC w p g n D hst (by omega) a ha his' x A c hk hr' hv hd w.heap.size hs (Nat.le_refl _) hsz _ rfl (.inr (by rw [hrep.size]; exact hM))).mono ?_
  rintro e w' ⟨rfl, A2, c2, hst', hsl, hkp⟩
  rw [hcp] at hst' hsl
  refine ⟨rfl, ⟨some g, _, fun b => T b ∨ (w.heap.size ≤ b ∧ b < w'.heap.size), hst', hrep.put (fun _ h => .inl h) (hTk w' hkp) ha hfit (hsl.keep (fun b _ h => .inr h) (fun _ _ _ _ _ => rfl)), .inl hp, fun b e => .inl (hmz b e), fun b hb => ?_⟩, hkz w' hkp⟩
  rcases hb with hb | ⟨h1, h2⟩
  · exact ⟨.inl (hT b hb).1, (hT b hb).2.1, (hT b hb).2.2.1, Nat.lt_of_lt_of_le (hT b hb).2.2.2 hkp.size⟩
  · exact ⟨.inr ⟨h1, h2⟩, by omega, fun e => by have := Option.some.inj e; omega, h2⟩
end Go.Proofs.YtelombedjkbckaaGreatDoor
namespace Go.Proofs.YtelombedjkbckaaGreatDoor
set_option linter.unusedSimpArgs false
set_option linter.unusedVariables false
open Go Go.RowKit Go.Shelf Go.Maps

/-- what is handed out: a cell, its content, and where its tree lies. -/
structure Hn where
 a : Ad
 x : Ct
 A : Option Addr
 c : Nat
def Hn.vals (h : Hn) : Array Value := #[h.a.val, contV h.x h.A h.c]
def Hn.p (h : Hn) : Ad × Ct := (h.a, h.x)
/-- it is the next cell of the row, and its tree lies in new blocks. -/
def HnAt (M : List (Ad × Ct)) (n : Nat) (pre : List Hn) (h : Hn) (W : World) : Prop := (pre ++ [h]).map Hn.p = M.take (pre.length + 1) ∧ ∃ lo, n ≤ lo ∧ SlG W (fun b _ => lo ≤ b ∧ b < W.heap.size) h.A h.c h.x.t.l
/-- where the loop of All's iterator stands. -/
def AlR (B Bs gk : Nat) (Z : Nat → Prop) (M : List (Ad × Ct)) (J : List Hn → World → Prop) (W1 : World) (j : Nat) (wr : World) : Prop :=
 ∃ pre : List Hn, pre.map Hn.p = M.take j ∧ J pre wr ∧ Zz.ZB (fun b => b = Bs ∨ Z b ∨ b = gk) W1 wr
theorem AbidesN.below {β : Type} {T : List TypeId} {B : Nat} {J : β → World → Prop} (h : AbidesN T B J) {s : β} {W W' : World} (hb : Below W.heap.size W W') (h0 : J s W) : J s W' :=
 h s W W' none h0 ⟨hb.os, hb.tape, hb.output, hb.size, fun k hk _ => hb.block k hk⟩ (fun r e => by cases e)
theorem AlR.below {B Bs gk : Nat} {Z : Nat → Prop} {M : List (Ad × Ct)} {J : List Hn → World → Prop} {W1 wr w' : World} {j : Nat} {T : List TypeId} (h : AlR B Bs gk Z M J W1 j wr) (hJ : AbidesN T B J) (hb : Below wr.heap.size wr w') (hz : ∀ k, (k = Bs ∨ Z k ∨ k = gk) → k < W1.heap.size) : AlR B Bs gk Z M J W1 j w' := by
 obtain ⟨pre, h1, h2, h3⟩ := h
 exact ⟨pre, h1, hJ.below hb h2, h3.trans (Zz.ZB.of_below hb (fun k hk => Nat.lt_of_lt_of_le (hz k hk) h3.size))⟩
theorem AlR.box {B Bs gk : Nat} {Z : Nat → Prop} {M : List (Ad × Ct)} {J : List Hn → World → Prop} {W1 wr : World} {j : Nat} (h : AlR B Bs gk Z M J W1 j wr) (hJ : AbidesN [30] B J) (hB : B ≤ W1.heap.size) (hz : ∀ k, (k = Bs ∨ Z k ∨ k = gk) → k < W1.heap.size) (X Y : Array Value) :
    AlR B Bs gk Z M J W1 j ((wr.alloc (.cells X 30)).setRow wr.heap.size Y) := by
 obtain ⟨pre, h1, h2, h3⟩ := h
 have hb : Below wr.heap.size wr ((wr.alloc (.cells X 30)).setRow wr.heap.size Y) := below_row ((Below.refl _ wr).alloc (Nat.le_refl _) _) (Nat.le_refl _) _
 exact ⟨pre, h1, hJ.below hb h2, h3.trans (Zz.ZB.of_below hb (fun k hk => Nat.lt_of_lt_of_le (hz k hk) h3.size))⟩
theorem ldPs_run {o : Oper} {ρ : Operand → Value} {w : World} (x : Operand) (ho : o.op = .load 24 x) (p : Addr) (hx : ρ x = .pointer (some p)) (v : Value) (hc : w.cell? p = some v) : (execOp ρ o).run Tryz.prog w = .ok (.value v) w := by
 unfold execOp
 simp only [ho, hx]
 simp [go_sem, hc]
theorem own_gk {w : World} {base n cap : Nat} {A : Option Addr} {xs : List Ad} (h : w.ownsRow base 30 4 (.slice A n cap) n (adCells xs)) (hn : 0 < n) : ∃ g, A = some ⟨g, 0, none⟩ ∧ base ≤ g ∧ g < w.heap.size ∧ CellsOf w 30 g ∧ n ≤ cap ∧ cap ≤ 9223372036854775807 ∧ ∀ w' : World, w'.heap[g]? = w.heap[g]? → ∀ j (hj : j < xs.length), w'.rangeAt g (j * 4) xs[j].cs := by
 rcases h.2 with ⟨e, -⟩ | ⟨g, c, cur, e, e2, e3, e4, e5, e6, e7⟩
 · have : n = 0 := by injection e
   omega
 · have e1 : A = some ⟨g, 0, none⟩ := by injection e
   have e0 : cap = c := by injection e
   subst e1 e0
   refine ⟨g, rfl, e2, (Jg e3).1, ⟨cur, (0, 0), e3⟩, e4, Nat.le_trans e5 (by decide), fun w' hw' j hj i v hv => ?_⟩
   refine (World.cell?_of_block (a := ⟨g, j * 4 + i, none⟩) hw').trans ?_
   refine own_cellC h rfl (j * 4 + i) v ?_
   have hi : i < 4 := by
    rcases Nat.lt_or_ge i 4 with h | h
    · exact h
    · rw [List.getElem?_eq_none (by rw [cs_len]; exact h)] at hv; cases hv
   unfold adCells
   rw [flatMap_get4 Ad.cs cs_len, show (j * 4 + i) / 4 = j by omega, show (j * 4 + i) % 4 = i by omega, List.getElem?_eq_getElem hj, Option.bind_some]
   exact hv
set_option maxRecDepth 100000 in
set_option maxHeartbeats 4000000 in
theorem all1_seq {w : World} {Bs s n : Nat} {M : List (Ad × Ct)} {Z : Nat → Prop} (hbs : w.heap[Bs]? = some (.cells #[.pointer (some ⟨s, 0, none⟩)] 24)) (hst : StZ w s n M Z) (hZ : ∀ b, Z b → b < w.heap.size) (hM : M.length ≤ 1000000) :
    Zz.SeqV [30] (fun b => b = Bs ∨ Z b) Tryz.prog 34 #[.pointer (some ⟨Bs, 0, none⟩)] Hn.vals (HnAt M w.heap.size) (fun xs => xs.map Hn.p = M) (fun _ => True) M.length w := by
 intro l J Jx W hW hJ hJx hY h0
 have hbl := (Jg hbs).1
 have hbW : W.heap[Bs]? = some (.cells #[.pointer (some ⟨s, 0, none⟩)] 24) := (hW.block Bs hbl).trans hbs
 have hsW : StZ W s n M Z := hst.keep (Z' := fun _ => False) (KeepZ.of hW) (fun _ _ h => h)
 have hZW : ∀ b, Z b → b < W.heap.size := fun b h => Nat.lt_of_lt_of_le (hZ b h) hW.size
 have hblW : Bs < W.heap.size := Nat.lt_of_lt_of_le hbl hW.size
 have hWs := hW.size
 clear hbs hst hZ hbl
 obtain ⟨m, D, T, hsa, hrep, hzs, hzm, hT⟩ := hsW
 obtain ⟨Wk, hWk⟩ : ∃ Wk, Wk = W.alloc (.cells #[.map m] 60) := ⟨_, rfl⟩
 have hbk : Below W.heap.size W Wk := by rw [hWk]; exact (Below.refl _ _).alloc (Nat.le_refl _) _
 have hkk : Wk.heap[W.heap.size]? = some (.cells #[.map m] 60) := by rw [hWk]; exact heap_alloc_new _ _
 have hks : Wk.heap.size = W.heap.size + 1 := by rw [hWk]; simp
 have hlen : (M.map (·.1)).length = M.length := List.length_map _
 have eg : ∀ args w, (callFunc 58 args).run Tryz.prog w = .ok (.enter 58 args) w := enters_of Tryz.func58 (by kernel_rfl) rfl
 have hsort : Calls Tryz.prog 35 #[.func (.func 58) #[] #[.pointer (some ⟨W.heap.size, 0, none⟩)], .func (.func 37) #[] #[]] Wk fun e w' => ∃ A cap, e = .returned (.slice A M.length cap) ∧ Below Wk.heap.size Wk w' ∧ w'.ownsRow Wk.heap.size 30 4 (.slice A M.length cap) M.length (adCells (M.map (·.1))) := by
  rw [← hlen]
  cases m with
  | none =>
   have hM0 : M = [] := List.length_eq_zero_iff.1 (by have h2 : D = .map [] := hsa.2; have h3 := hrep.size; rw [h2] at h3; exact h3.symm)
   subst hM0
   exact sortedFunc_c eg (keys1_nil (n₀ := Wk.heap.size) hkk (by omega) (Nat.le_refl _)) (Nat.le_refl _) (by omega) (Below.refl _ _) (fun xs h => by subst h; exact ⟨by simp, by simp⟩)
  | some b =>
   have hbz := hZW b (hzm b rfl)
   have how : Wk.ownsMap Tryz.prog 30 heldR b n D := by
    obtain ⟨es, clock, e1, e2⟩ := hsa.2
    exact ⟨es, clock, (hbk.block b hbz).trans e1, e2⟩
   have hms : Maps.size D ≤ 1000000000 := by rw [hrep.size]; omega
   exact sortedFunc_c eg (keys1_seq (n₀ := Wk.heap.size) hkk how (by omega) (by omega) (Nat.le_refl _)) (Nat.le_refl _) hms (Below.refl _ _) (fun xs h => by
    have h1 := sorted_keys hrep h
    refine ⟨?_, h1⟩
    have h2 := congrArg List.length h1
    rw [List.length_mergeSort, hlen] at h2
    omega)
 have hc0 : W.cell? ⟨Bs, 0, none⟩ = some (.pointer (some ⟨s, 0, none⟩)) := cell_of_row _ _ 0 _ _ _ hbW
 have hc1 : W.cell? ⟨s, 0, none⟩ = some (.map m) := cell_of_row _ _ 0 _ _ _ hsa.1
 have hbel2 : ∀ w2, Below Wk.heap.size Wk w2 → Below W.heap.size W w2 := fun w2 h => hbk.trans (h.mono hbk.size)
 obtain ⟨nM, hnM⟩ : ∃ k, k = M.length := ⟨_, rfl⟩
 rw [← hnM] at hsort
 have HSORT := Jh hsort
 have HWK := Jh hWk
 have HK := Jh (And.intro hbk (And.intro hkk hks))
 have HB2 := Jh hbel2
 have HJ := Jh hJ
 have HJx := Jh hJx
 have HY := Jh hY
 have H0 := Jh h0
 have HNM := Jh hnM
 have HST := Jh (And.intro hsa (And.intro hrep (And.intro hzs (And.intro hzm hT))))
 have HZ := Jh (And.intro hbW (And.intro hZW (And.intro hblW (And.intro hWs hM))))
 clear hsort hWk hbk hkk hks hbel2 hJ hJx hY h0 hsa hrep hzs hzm hT hbW hZW hblW hWs hM hW eg hlen hnM
 go_enter Tryz.func34, Tryz.ntmps34
 go_wp2_with (first | (go_at_call 36; refine (keys_c _ _).mono ?_; rintro e w1 ⟨rfl, rfl⟩; rw [← HWK.out]) | (go_at_call 35; refine HSORT.out.mono ?_; rintro e w2 ⟨A, cap, rfl, hb2, hown⟩; have HOW := Jh (And.intro hb2 hown); clear hb2 hown) | fail)
 have hgk : ∃ gk, gk < w2.heap.size ∧ (0 < nM → A = some ⟨gk, 0, none⟩ ∧ CellsOf w2 30 gk ∧ nM ≤ cap ∧ cap ≤ 9223372036854775807 ∧ ∀ w' : World, w'.heap[gk]? = w2.heap[gk]? → ∀ j (hj : j < (M.map (fun e : Ad × Ct => e.1)).length), w'.rangeAt gk (j * 4) (M.map (fun e : Ad × Ct => e.1))[j].cs) := by
  by_cases h : 0 < nM
  · obtain ⟨g, h1, h2, h3, h4, h5, h6, h7⟩ := own_gk HOW.out.2 h
    exact ⟨g, h3, fun _ => ⟨h1, h4, h5, h6, h7⟩⟩
  · refine ⟨Bs, ?_, fun h' => absurd h' h⟩
    have h1 := HOW.out.1.size
    have h2 := HK.out.2.2
    have h3 := HZ.out.2.2.1
    omega
 obtain ⟨gk, hgl, hgk⟩ := hgk
 have hbW2 := HB2.out _ HOW.out.1
 have hst0 : AlR W.heap.size Bs gk Z M J w2 0 w2 := ⟨[], by simp, HJ.out.below hbW2 H0.out, Zz.ZB.refl _ _⟩
 have hzk : ∀ k, (k = Bs ∨ Z k ∨ k = gk) → k < w2.heap.size := fun k h => by
  have h1 := hbW2.size
  rcases h with h | h | h
  · have := HZ.out.2.2.1; omega
  · have := HZ.out.2.1 k h; omega
  · omega
 have HGK := Jh hgk
 have HZK := Jh hzk
 have HA0 := Jh hst0
 have HW2 := Jh (And.intro hbW2 hgl)
 clear hgk hzk hst0 hbW2 hgl HOW HSORT HWK HK HB2 hc0 hc1 H0
 go_loopw [16] (fun iv wr => ∃ j : Nat, j ≤ nM ∧ iv = .int .i64 j ∧ Hid (AlR W.heap.size Bs gk Z M J w2 j wr)) (fun iv _ => nM - (intOf iv).toNat)
 case atStart => exact ⟨0, Nat.zero_le _, rfl, HA0⟩
 case round =>
  obtain ⟨j, hj, rfl, hR⟩ := hrel
  have hM6 : nM ≤ 1000000 := by rw [HNM.out]; exact HZ.out.2.2.2.2
  by_cases hlj : j < nM
  · have hjI : (j : Int) < (nM : Int) := by omega
    have hj0 : (0 : Int) ≤ j := by omega
    have hjM : j < M.length := by rw [← HNM.out]; exact hlj
    obtain ⟨hA, hgc, hcap1, hcap2, hrg⟩ := HGK.out (by omega)
    obtain ⟨pre, hp1, hp2, hp3⟩ := hR.out
    obtain ⟨⟨ra, rn, ca, cn⟩, x, hax⟩ : ∃ (a : Ad) (x : Ct), M[j] = (a, x) := ⟨_, _, rfl⟩
    have hrow := hrg wr (hp3.block gk (.inr (.inr rfl)) HW2.out.2) j (by rw [List.length_map]; exact hjM)
    rw [List.getElem_map, hax] at hrow
    dsimp only [Ad.cs] at hrow
    have HROW := Jh hrow
    have HAX := Jh (show ((⟨ra, rn, ca, cn⟩ : Ad), x) ∈ M from by rw [← hax]; exact List.getElem_mem hjM)
    have HPR := Jh (And.intro hp1 (And.intro hp2 hp3))
    have HTK := Jh (show M.take (j + 1) = M.take j ++ [(⟨ra, rn, ca, cn⟩, x)] from by rw [List.take_succ_eq_append_getElem hjM, hax])
    have HGC := Jh hgc
    clear hrow hrg hp1 hp2 hp3 hax hR hgc
    subst hA
    go_upto_region 4 with (first | (refine wpList_mid rfl 30 _ rfl gk (j * 4) rfl [.int .i64 ra, .int .i64 rn, .int .i64 ca, .int .i64 cn] _ HROW.out undCell rfl infCell ?_) | (refine wpList_store_row rfl 30 _ _ rfl wr.heap.size #[.int .i64 ra, .int .i64 rn, .int .i64 ca, .int .i64 cn] rfl rfl 30 #[.int .i64 0, .int .i64 0, .int .i64 0, .int .i64 0] (heap_alloc_new _ _) (infCe4 _ _ _ _) rfl (by kernel_rfl) ?_) | fail)
    obtain ⟨g4, hg4⟩ : ∃ g, g = wr.heap.size := ⟨_, rfl⟩
    obtain ⟨w3, hw3⟩ : ∃ w3, w3 = (wr.alloc (.cells #[.int .i64 0, .int .i64 0, .int .i64 0, .int .i64 0] 30)).setRow wr.heap.size #[.int .i64 ra, .int .i64 rn, .int .i64 ca, .int .i64 cn] := ⟨_, rfl⟩
    have hb3 : Below wr.heap.size wr w3 := by rw [hw3]; exact below_row ((Below.refl _ wr).alloc (Nat.le_refl _) _) (Nat.le_refl _) _
    have hk4 : w3.heap[g4]? = some (.cells #[.int .i64 ra, .int .i64 rn, .int .i64 ca, .int .i64 cn] 30) := by rw [hw3, hg4]; exact setRow_heap _ _ _ _ _ _ (heap_alloc_new _ _)
    (try change Code.wp _ _ _ _ ((wr.alloc (.cells #[.int .i64 0, .int .i64 0, .int .i64 0, .int .i64 0] 30)).setRow wr.heap.size #[.int .i64 ra, .int .i64 rn, .int .i64 ca, .int .i64 cn]))
    rw [← hw3, ← hg4]
    have s0 := HW2.out.1.size
    have s1 := HPR.out.2.2.size
    have s2 := hb3.size
    have hz3 : Zz.ZB (fun b => b = Bs ∨ Z b ∨ b = gk) w2 w3 := HPR.out.2.2.trans (Zz.ZB.of_below hb3 (fun k hk => Nat.lt_of_lt_of_le (HZK.out k hk) s1))
    have hk3 : KeepZ (fun k => ¬ (k = Bs ∨ Z k)) W w3 := ⟨hz3.os.trans HW2.out.1.os, hz3.tape.trans HW2.out.1.tape, hz3.output.trans HW2.out.1.output, by omega, fun k hk hn => by
     have hn' : k = Bs ∨ Z k := Classical.not_not.1 hn
     exact (hz3.block k (hn'.elim .inl (fun h => .inr (.inl h))) (by omega)).trans (HW2.out.1.block k hk)⟩
    have hs3 : StZ w3 s n M Z := StZ.keep ⟨m, D, T, HST.out⟩ hk3 (fun k h hn => hn (.inr h))
    have hb3s : w3.heap[Bs]? = some (.cells #[.pointer (some ⟨s, 0, none⟩)] 24) := (hk3.block Bs HZ.out.2.2.1 (fun h => h (.inl rfl))).trans HZ.out.1
    obtain ⟨m3, D3, T3, hsa3, hrep3, hzs3, hzm3, hT3⟩ := hs3
    obtain ⟨A0, c0, hat, hsl⟩ := hrep3.val _ _ HAX.out
    have hfit := hrep3.ok _ _ HAX.out
    have hhas : Maps.has D3 (Ad.key ⟨ra, rn, ca, cn⟩) = true := by rw [hrep3.has _ hfit.1, (getA_mem hrep3.order).2 HAX.out]; rfl
    obtain ⟨CX, hCX⟩ : ∃ C, C = contA x A0 c0 := ⟨_, rfl⟩
    have hr4 : ∀ wx, Below w3.heap.size w3 wx → wx.cell? ⟨Bs, 0, none⟩ = some (.pointer (some ⟨s, 0, none⟩)) ∧ wx.cell? ⟨s, 0, none⟩ = some (.map m3) ∧ wx.rangeAt g4 0 [.int .i64 ra, .int .i64 rn, .int .i64 ca, .int .i64 cn] ∧ (Instr.lookup 60 (.map m3) (.agg #[.int .i64 ra, .int .i64 rn, .int .i64 ca, .int .i64 cn]) true).run Tryz.prog wx = .ok (.tuple #[.agg CX, .bool true]) wx := fun wx hx => by
     refine ⟨cell_of_row _ _ 0 _ _ _ ((hx.block Bs (by have := HZ.out.2.2.1; omega)).trans hb3s), cell_of_row _ _ 0 _ _ _ ((hx.block s (by have := (Jg hsa3.1).1; omega)).trans hsa3.1), ad_range ((hx.block g4 (Jg hk4).1).trans hk4), ?_⟩
     obtain ⟨v', hl', hv', -⟩ := look_st (hsa3.below hx) _ hfit.1
     rw [hat] at hv'
     obtain rfl : contA x A0 c0 = v' := by injection hv' with hv'; injection hv'
     rwa [hhas, ← hCX] at hl'
    obtain ⟨g5, hg5⟩ : ∃ g, g = w3.heap.size := ⟨_, rfl⟩
    have hsz3 : w3.drew.heap.size = g5 := hg5.symm
    have hS1 : Below w3.heap.size w3 (w3.drew.alloc (.cells (contA zCt none 0) 43)) := (Below.refl _ _).drew.alloc (Nat.le_refl _) _
    have hS2 : Below w3.heap.size w3 (w3.drew.alloc (.cells CX 43)) := (Below.refl _ _).drew.alloc (Nat.le_refl _) _
    have hcx : (Tryz.prog.info? 43).map (·.size) = some CX.size ∧ (contA zCt none 0).size = CX.size ∧ CX.all (·.oneCell') = true := by rw [hCX]; exact ⟨infC, rfl, cont_one _ _ _⟩
    obtain ⟨W4, hW4⟩ : ∃ W4, W4 = w3.drew.alloc (.cells CX 43) := ⟨_, rfl⟩
    have hk5 : W4.heap[g5]? = some (.cells CX 43) := by rw [hW4, hg5]; exact heap_alloc_new _ _
    have hb4 : Below w3.heap.size w3 W4.drew := by rw [hW4]; exact hS2.drew
    have hcp : Calls Tryz.prog 33 #[.agg CX] W4.drew (CopyC W4.drew x) := by
     have h1 := copied_any x W4.drew A0 c0 hfit.2.d ((hsl.at_ (B := w3.heap.size) (fun b _ hb => (hT3 b hb).2.2.2)).below hb4 |>.more hb4.size) hfit.2.size
     rw [right_cp hfit.2] at h1
     rw [hCX]
     exact h1
    have HR4 := Jh hr4
    have HCXE := Jh hCX
    have HG5 := Jh (And.intro hsz3 (And.intro hS1 hS2))
    have HCX := Jh hcx
    have HW4 := Jh hW4
    have HW5 := Jh (And.intro ((hb4.block g4 (Jg hk4).1).trans hk4) (And.intro (show W4.drew.heap[g5]? = some (.cells CX 43) from hk5) (And.intro hb4 (And.intro hb3 hz3))))
    have HCP := Jh hcp
    clear hCX hr4 hsz3 hS1 hS2 hcx hW4 hk5 hb4 hcp hg5 hsl hat hfit hhas hsa3 hrep3 hzs3 hzm3 hT3 hb3s hk3 hz3 hb3 hk4 hw3 hg4 s0 s1 s2
    go_wp2
    refine wp_region_held_drew (S := fun wx => Below w3.heap.size w3 wx) (by kernel_rfl) (Below.refl _ _).drew (fun hHeld => ?_)
    refine tkG (i := 0) (v := .pointer (some ⟨s, 0, none⟩)) rfl (Or.inl ⟨by kernel_rfl, fun _ hS => ldPs_run _ rfl ⟨Bs, 0, none⟩ rfl _ (HR4.out _ hS).1⟩) hHeld ?_
    (try simp only [Act.put, List.getElem_toArray, List.getElem_cons_succ, List.getElem_cons_zero, List.setIfInBounds_toArray, List.set_cons_zero, List.set_cons_succ])
    refine tkG (i := 1) (v := .pointer (some ⟨s, 0, none⟩)) rfl (Or.inl ⟨by kernel_rfl, fun _ hS => by kernel_rfl⟩) hHeld ?_
    (try simp only [Act.put, List.getElem_toArray, List.getElem_cons_succ, List.getElem_cons_zero, List.setIfInBounds_toArray, List.set_cons_zero, List.set_cons_succ])
    refine tkG (i := 2) (v := .pointer (some ⟨s, 0, none⟩)) rfl (Or.inl ⟨by kernel_rfl, fun _ hS => by kernel_rfl⟩) hHeld ?_
    (try simp only [Act.put, List.getElem_toArray, List.getElem_cons_succ, List.getElem_cons_zero, List.setIfInBounds_toArray, List.set_cons_zero, List.set_cons_succ])
    refine tkG (i := 3) (v := .map m3) rfl (Or.inl ⟨by kernel_rfl, fun _ hS => ld_mp _ rfl ⟨s, 0, none⟩ rfl _ (HR4.out _ hS).2.1⟩) hHeld ?_
    (try simp only [Act.put, List.getElem_toArray, List.getElem_cons_succ, List.getElem_cons_zero, List.setIfInBounds_toArray, List.set_cons_zero, List.set_cons_succ])
    refine tkG (i := 4) (v := .agg #[.int .i64 ra, .int .i64 rn, .int .i64 ca, .int .i64 cn]) rfl (yieldsIf_load_mid (by kernel_rfl) 30 _ rfl g4 0 rfl [.int .i64 ra, .int .i64 rn, .int .i64 ca, .int .i64 cn] _ (fun _ hS => (HR4.out _ hS).2.2.1) undCell rfl infCell) hHeld ?_
    (try simp only [Act.put, List.getElem_toArray, List.getElem_cons_succ, List.getElem_cons_zero, List.setIfInBounds_toArray, List.set_cons_zero, List.set_cons_succ])
    refine tkG (i := 5) (v := .tuple #[.agg CX, .bool true]) rfl (Or.inl ⟨by kernel_rfl, fun _ hS => lk_run (mv := .map m3) (kv := .agg #[.int .i64 ra, .int .i64 rn, .int .i64 ca, .int .i64 cn]) _ _ rfl rfl rfl (HR4.out _ hS).2.2.2⟩) hHeld ?_
    (try simp only [Act.put, List.getElem_toArray, List.getElem_cons_succ, List.getElem_cons_zero, List.setIfInBounds_toArray, List.set_cons_zero, List.set_cons_succ])
    refine tkG (i := 6) (v := .tuple #[.agg CX, .bool true]) rfl (Or.inl ⟨by kernel_rfl, fun _ hS => by kernel_rfl⟩) hHeld ?_
    (try simp only [Act.put, List.getElem_toArray, List.getElem_cons_succ, List.getElem_cons_zero, List.setIfInBounds_toArray, List.set_cons_zero, List.set_cons_succ])
    refine tkG (i := 7) (v := .agg CX) rfl (Or.inl ⟨by kernel_rfl, fun _ hS => by kernel_rfl⟩) hHeld ?_
    (try simp only [Act.put, List.getElem_toArray, List.getElem_cons_succ, List.getElem_cons_zero, List.setIfInBounds_toArray, List.set_cons_zero, List.set_cons_succ])
    refine tkG (i := 8) (v := .bool true) rfl (Or.inl ⟨by kernel_rfl, fun _ hS => by kernel_rfl⟩) hHeld ?_
    (try simp only [Act.put, List.getElem_toArray, List.getElem_cons_succ, List.getElem_cons_zero, List.setIfInBounds_toArray, List.set_cons_zero, List.set_cons_succ])
    refine wpAnyH_contVar (i := 9) (by kernel_rfl) rfl rfl rfl g5 HG5.out.1 HG5.out.2.1 (fun hHeld => ?_)
    (try simp only [Act.put, List.getElem_toArray, List.getElem_cons_succ, List.getElem_cons_zero, List.setIfInBounds_toArray, List.set_cons_zero, List.set_cons_succ])
    refine wpAnyH_storeFresh (i := 10) (by kernel_rfl) rfl rfl 43 _ _ rfl g5 HG5.out.1 CX rfl rfl HCX.out.1 HCX.out.2.1 HCX.out.2.2 HG5.out.2.2 (fun hHeld => ?_)
    (try simp only [Act.put, List.getElem_toArray, List.getElem_cons_succ, List.getElem_cons_zero, List.setIfInBounds_toArray, List.set_cons_zero, List.set_cons_succ])
    refine tkG (i := 11) (v := .bool true) rfl (Or.inl ⟨by kernel_rfl, fun _ hS => by kernel_rfl⟩) hHeld ?_
    (try simp only [Act.put, List.getElem_toArray, List.getElem_cons_succ, List.getElem_cons_zero, List.setIfInBounds_toArray, List.set_cons_zero, List.set_cons_succ])
    refine wpAnyH_done (by kernel_rfl) ?_ _
    clear hHeld
    rw [← HW4.out]
    go_wp2
    refine (wpIn_wide (n := 5)).1 ?_
    refine wpIn_region_any (by kernel_rfl) ?_
    change wpAnyIn _ _ _ _ _ _ _ _ _ W4.drew
    have hy5 : ∀ (w6 : World) (A2 : Option Addr) (c2 : Nat), SlG w6 (fun b _ => W4.drew.heap.size ≤ b ∧ b < w6.heap.size) A2 c2 x.t.l → Below W4.drew.heap.size W4.drew w6 → ∃ fn tmps asg bdy, (Instr.yield l #[.agg #[.int .i64 ra, .int .i64 rn, .int .i64 ca, .int .i64 cn], contV x A2 c2]).run Tryz.prog w6 = .ok (.round l fn tmps asg bdy) w6 ∧ RoundIn Fence.wide 0 Tryz.prog l fn tmps asg bdy w6 fun e W' => ∃ q : Bool, e = .returned (.bool q) ∧ ((q = true ∧ AlR W.heap.size Bs gk Z M J w2 (j + 1) W') ∨ (q = false ∧ Jx (pre ++ [⟨⟨ra, rn, ca, cn⟩, x, A2, c2⟩]) W')) := fun w6 A2 c2 hs6 hb6 => by
     obtain ⟨-, -, hb4, hb3, hz3⟩ := HW5.out
     have e0 := HW2.out.1.size
     have e1 := HPR.out.2.2.size
     have e2 := hb3.size
     have e3 := hb4.size
     have e4 := HZ.out.2.2.2.1
     have hb36 : Below w3.heap.size w3 w6 := hb4.trans (hb6.mono e3)
     have hz6 : Zz.ZB (fun b => b = Bs ∨ Z b ∨ b = gk) w2 w6 := hz3.trans (Zz.ZB.of_below hb36 (fun k hk => by have := HZK.out k hk; omega))
     have hJ6 : J pre w6 := HJ.out.below hb36 (HJ.out.below hb3 HPR.out.2.1)
     have hg6 : w6.heap[gk]? = w2.heap[gk]? := hz6.block gk (.inr (.inr rfl)) HW2.out.2
     have hc6 : CellsOf w6 30 gk := by obtain ⟨cs, fz, hc⟩ := HGC.out; exact ⟨cs, fz, hg6.trans hc⟩
     have hpl : pre.length = j := by
      have := congrArg List.length HPR.out.1
      rw [List.length_map, List.length_take] at this
      omega
     obtain ⟨fn, tmps, asg, bdy, hy, hR⟩ := HY.out pre ⟨⟨ra, rn, ca, cn⟩, x, A2, c2⟩ w6 hJ6 ⟨by rw [List.map_append, HPR.out.1, hpl, HTK.out]; rfl, W4.drew.heap.size, by omega, hs6⟩ (by omega)
     refine ⟨fn, tmps, asg, bdy, hy, hR.mono (fun e W' h => h.elim (fun h => ⟨true, h.1, .inl ⟨rfl, _, ?_, h.2.1, ?_⟩⟩) (fun h => ⟨false, h.1, .inr ⟨rfl, h.2.1⟩⟩))⟩
     · rw [List.map_append, HPR.out.1, HTK.out]
       rfl
     · obtain ⟨-, -, hkt, -⟩ := h
       refine hz6.trans ⟨hkt.below.os, hkt.below.tape, hkt.below.output, hkt.below.size, fun k hk hl => ?_⟩
       rcases hk with hk | hk | rfl
       · exact hkt.below.block k (.inl hk) hl
       · exact hkt.below.block k (.inr hk) hl
       · exact hkt.same _ (by simp) _ hc6
    have HY5 := Jh hy5
    clear hy5
    have HG46 := Jh (fun (w6 : World) (h : Below W4.drew.heap.size W4.drew w6) => (h.block g4 (Jg HW5.out.1).1).trans HW5.out.1)
    generalize W4.drew = W5 at HW5 HCP HY5 HG46 ⊢
    refine wpAnyIn_take (i := 0) (v := .bool true) rfl rfl (by kernel_rfl) (by kernel_rfl) (by kernel_rfl) (fun _ _ _ h => h) ⟨Or.inl ⟨by kernel_rfl, fun _ => by kernel_rfl⟩, fun _ => rfl⟩ ?_
    (try simp only [Act.put, List.getElem_toArray, List.getElem_cons_succ, List.getElem_cons_zero, List.setIfInBounds_toArray, List.set_cons_zero, List.set_cons_succ])
    refine wpAnyIn_take (i := 1) (v := .bool true) rfl rfl (by kernel_rfl) (by kernel_rfl) (by kernel_rfl) (fun _ _ _ h => h) ⟨Or.inl ⟨by kernel_rfl, fun _ => by kernel_rfl⟩, fun _ => rfl⟩ ?_
    (try simp only [Act.put, List.getElem_toArray, List.getElem_cons_succ, List.getElem_cons_zero, List.setIfInBounds_toArray, List.set_cons_zero, List.set_cons_succ])
    refine wpAnyIn_take (i := 2) (v := .func (.yield l) #[] #[]) rfl rfl (by kernel_rfl) (by kernel_rfl) (by kernel_rfl) (fun _ _ _ h => h) ⟨Or.inl ⟨by kernel_rfl, fun _ => by kernel_rfl⟩, fun _ => rfl⟩ ?_
    (try simp only [Act.put, List.getElem_toArray, List.getElem_cons_succ, List.getElem_cons_zero, List.setIfInBounds_toArray, List.set_cons_zero, List.set_cons_succ])
    refine wpAnyIn_ready (rs := [3, 4]) (by kernel_rfl) (by simp) ?_
    refine AllReadyIn.cons rfl (fun K hK => ?_) (AllReadyIn.cons rfl (fun K hK => ?_) AllReadyIn.nil)
    · rw [if_pos (by kernel_rfl)]
      refine wpIn_of_wpW (by intro c h; cases h) (wp_load_row 30 _ rfl g4 rfl 30 #[.int .i64 ra, .int .i64 rn, .int .i64 ca, .int .i64 cn] (0, 0) _ HW5.out.1 undCell rfl (infCe4 _ _ _ _) (hK _ _ ?_))
      clear hK K
      (try simp only [Act.put, List.getElem_toArray, List.getElem_cons_succ, List.getElem_cons_zero, List.setIfInBounds_toArray, List.set_cons_zero, List.set_cons_succ])
      refine wpAnyIn_ready (rs := [4]) (by kernel_rfl) (by simp) ?_
      refine AllReadyIn.cons rfl (fun K hK => ?_) AllReadyIn.nil
      rw [if_pos (by kernel_rfl)]
      refine wpIn_of_wpW (by intro c h; cases h) (wp_load_row 43 _ rfl g5 rfl 43 CX (0, 0) _ HW5.out.2.1 undC rfl HCX.out.1 (hK _ _ ?_))
      clear hK K
      (try simp only [Act.put, List.getElem_toArray, List.getElem_cons_succ, List.getElem_cons_zero, List.setIfInBounds_toArray, List.set_cons_zero, List.set_cons_succ])
      refine wpAnyIn_ready (rs := [5]) (by kernel_rfl) (by simp) ?_
      refine AllReadyIn.cons rfl (fun K hK => ?_) AllReadyIn.nil
      rw [if_pos (by kernel_rfl)]
      go_simp
      refine ⟨trivial, callsIn_wide.2 (HCP.out.mono ?_)⟩
      rintro e w6 ⟨A2, c2, rfl, hsl6, hb6⟩
      have HS6 := Jh (And.intro hsl6 hb6)
      clear hsl6 hb6
      obtain ⟨CV, hCV⟩ : ∃ C, C = contV x A2 c2 := ⟨_, rfl⟩
      rw [← hCV]
      have HCV := Jh hCV
      clear hCV
      refine hK _ _ ?_
      clear hK K
      (try simp only [Act.put, List.getElem_toArray, List.getElem_cons_succ, List.getElem_cons_zero, List.setIfInBounds_toArray, List.set_cons_zero, List.set_cons_succ])
      refine wpAnyIn_ready (rs := [6]) (by kernel_rfl) (by simp) ?_
      refine AllReadyIn.cons rfl (fun K hK => ?_) AllReadyIn.nil
      obtain ⟨fn, tmps, asg, bdy, hy, hR⟩ := HY5.out w6 A2 c2 HS6.out.1 HS6.out.2
      rw [← HCV.out] at hy
      have HR5 := Jh hR
      clear hR
      rw [if_pos (by kernel_rfl)]
      go_simp
      refine (RoundIn.wideN HR5.out).mono ?_
      clear hy
      rintro e W7 ⟨q, rfl, (⟨rfl, hq⟩ | ⟨rfl, hq⟩)⟩
      · have HQ := Jh hq
        clear hq
        refine hK _ _ ?_
        clear hK K
        (try simp only [Act.put, List.getElem_toArray, List.getElem_cons_succ, List.getElem_cons_zero, List.setIfInBounds_toArray, List.set_cons_zero, List.set_cons_succ])
        refine wpAnyIn_take (i := 7) (v := .bool false) rfl rfl (by kernel_rfl) (by kernel_rfl) (by kernel_rfl) (fun _ _ _ h => h) ⟨Or.inl ⟨by kernel_rfl, fun _ => by kernel_rfl⟩, fun _ => rfl⟩ ?_
        (try simp only [Act.put, List.getElem_toArray, List.getElem_cons_succ, List.getElem_cons_zero, List.setIfInBounds_toArray, List.set_cons_zero, List.set_cons_succ])
        refine wpAnyIn_take (i := 8) (v := .bool false) rfl rfl (by kernel_rfl) (by kernel_rfl) (by kernel_rfl) (fun _ _ _ h => h) ⟨Or.inl ⟨by kernel_rfl, fun _ => by kernel_rfl⟩, fun _ => rfl⟩ ?_
        (try simp only [Act.put, List.getElem_toArray, List.getElem_cons_succ, List.getElem_cons_zero, List.setIfInBounds_toArray, List.set_cons_zero, List.set_cons_succ])
        refine wpAnyIn_done (by kernel_rfl) ?_ _
        go_wp2
        go_roundw
        case measure => simp [intOf]; omega
        case rel => exact ⟨j + 1, by omega, by go_num, HQ⟩
      · have HQ := Jh hq
        clear hq
        refine hK _ _ ?_
        clear hK K
        (try simp only [Act.put, List.getElem_toArray, List.getElem_cons_succ, List.getElem_cons_zero, List.setIfInBounds_toArray, List.set_cons_zero, List.set_cons_succ])
        refine wpAnyIn_take (i := 7) (v := .bool true) rfl rfl (by kernel_rfl) (by kernel_rfl) (by kernel_rfl) (fun _ _ _ h => h) ⟨Or.inl ⟨by kernel_rfl, fun _ => by kernel_rfl⟩, fun _ => rfl⟩ ?_
        (try simp only [Act.put, List.getElem_toArray, List.getElem_cons_succ, List.getElem_cons_zero, List.setIfInBounds_toArray, List.set_cons_zero, List.set_cons_succ])
        refine wpAnyIn_take (i := 8) (v := .bool true) rfl rfl (by kernel_rfl) (by kernel_rfl) (by kernel_rfl) (fun _ _ _ h => h) ⟨Or.inl ⟨by kernel_rfl, fun _ => by kernel_rfl⟩, fun _ => rfl⟩ ?_
        (try simp only [Act.put, List.getElem_toArray, List.getElem_cons_succ, List.getElem_cons_zero, List.setIfInBounds_toArray, List.set_cons_zero, List.set_cons_succ])
        refine wpAnyIn_done (by kernel_rfl) ?_ _
        go_wp2
        first | go_end0 | (refine bodyPost_ret (results_none rfl _ _ _) rfl ?_)
        exact ⟨⟨_, rfl⟩, .inr ⟨_, trivial, HQ.out⟩⟩
    · rw [if_pos (by kernel_rfl)]
      refine wpIn_of_wpW (by intro c h; cases h) (wp_load_row 43 _ rfl g5 rfl 43 CX (0, 0) _ HW5.out.2.1 undC rfl HCX.out.1 (hK _ _ ?_))
      clear hK K
      (try simp only [Act.put, List.getElem_toArray, List.getElem_cons_succ, List.getElem_cons_zero, List.setIfInBounds_toArray, List.set_cons_zero, List.set_cons_succ])
      refine wpAnyIn_ready (rs := [3, 5]) (by kernel_rfl) (by simp) ?_
      refine AllReadyIn.cons rfl (fun K hK => ?_) (AllReadyIn.cons rfl (fun K hK => ?_) AllReadyIn.nil)
      · rw [if_pos (by kernel_rfl)]
        refine wpIn_of_wpW (by intro c h; cases h) (wp_load_row 30 _ rfl g4 rfl 30 #[.int .i64 ra, .int .i64 rn, .int .i64 ca, .int .i64 cn] (0, 0) _ HW5.out.1 undCell rfl (infCe4 _ _ _ _) (hK _ _ ?_))
        clear hK K
        (try simp only [Act.put, List.getElem_toArray, List.getElem_cons_succ, List.getElem_cons_zero, List.setIfInBounds_toArray, List.set_cons_zero, List.set_cons_succ])
        refine wpAnyIn_ready (rs := [5]) (by kernel_rfl) (by simp) ?_
        refine AllReadyIn.cons rfl (fun K hK => ?_) AllReadyIn.nil
        rw [if_pos (by kernel_rfl)]
        go_simp
        refine ⟨trivial, callsIn_wide.2 (HCP.out.mono ?_)⟩
        rintro e w6 ⟨A2, c2, rfl, hsl6, hb6⟩
        have HS6 := Jh (And.intro hsl6 hb6)
        clear hsl6 hb6
        obtain ⟨CV, hCV⟩ : ∃ C, C = contV x A2 c2 := ⟨_, rfl⟩
        rw [← hCV]
        have HCV := Jh hCV
        clear hCV
        refine hK _ _ ?_
        clear hK K
        (try simp only [Act.put, List.getElem_toArray, List.getElem_cons_succ, List.getElem_cons_zero, List.setIfInBounds_toArray, List.set_cons_zero, List.set_cons_succ])
        refine wpAnyIn_ready (rs := [6]) (by kernel_rfl) (by simp) ?_
        refine AllReadyIn.cons rfl (fun K hK => ?_) AllReadyIn.nil
        obtain ⟨fn, tmps, asg, bdy, hy, hR⟩ := HY5.out w6 A2 c2 HS6.out.1 HS6.out.2
        rw [← HCV.out] at hy
        have HR5 := Jh hR
        clear hR
        rw [if_pos (by kernel_rfl)]
        go_simp
        refine (RoundIn.wideN HR5.out).mono ?_
        clear hy
        rintro e W7 ⟨q, rfl, (⟨rfl, hq⟩ | ⟨rfl, hq⟩)⟩
        · have HQ := Jh hq
          clear hq
          refine hK _ _ ?_
          clear hK K
          (try simp only [Act.put, List.getElem_toArray, List.getElem_cons_succ, List.getElem_cons_zero, List.setIfInBounds_toArray, List.set_cons_zero, List.set_cons_succ])
          refine wpAnyIn_take (i := 7) (v := .bool false) rfl rfl (by kernel_rfl) (by kernel_rfl) (by kernel_rfl) (fun _ _ _ h => h) ⟨Or.inl ⟨by kernel_rfl, fun _ => by kernel_rfl⟩, fun _ => rfl⟩ ?_
          (try simp only [Act.put, List.getElem_toArray, List.getElem_cons_succ, List.getElem_cons_zero, List.setIfInBounds_toArray, List.set_cons_zero, List.set_cons_succ])
          refine wpAnyIn_take (i := 8) (v := .bool false) rfl rfl (by kernel_rfl) (by kernel_rfl) (by kernel_rfl) (fun _ _ _ h => h) ⟨Or.inl ⟨by kernel_rfl, fun _ => by kernel_rfl⟩, fun _ => rfl⟩ ?_
          (try simp only [Act.put, List.getElem_toArray, List.getElem_cons_succ, List.getElem_cons_zero, List.setIfInBounds_toArray, List.set_cons_zero, List.set_cons_succ])
          refine wpAnyIn_done (by kernel_rfl) ?_ _
          go_wp2
          go_roundw
          case measure => simp [intOf]; omega
          case rel => exact ⟨j + 1, by omega, by go_num, HQ⟩
        · have HQ := Jh hq
          clear hq
          refine hK _ _ ?_
          clear hK K
          (try simp only [Act.put, List.getElem_toArray, List.getElem_cons_succ, List.getElem_cons_zero, List.setIfInBounds_toArray, List.set_cons_zero, List.set_cons_succ])
          refine wpAnyIn_take (i := 7) (v := .bool true) rfl rfl (by kernel_rfl) (by kernel_rfl) (by kernel_rfl) (fun _ _ _ h => h) ⟨Or.inl ⟨by kernel_rfl, fun _ => by kernel_rfl⟩, fun _ => rfl⟩ ?_
          (try simp only [Act.put, List.getElem_toArray, List.getElem_cons_succ, List.getElem_cons_zero, List.setIfInBounds_toArray, List.set_cons_zero, List.set_cons_succ])
          refine wpAnyIn_take (i := 8) (v := .bool true) rfl rfl (by kernel_rfl) (by kernel_rfl) (by kernel_rfl) (fun _ _ _ h => h) ⟨Or.inl ⟨by kernel_rfl, fun _ => by kernel_rfl⟩, fun _ => rfl⟩ ?_
          (try simp only [Act.put, List.getElem_toArray, List.getElem_cons_succ, List.getElem_cons_zero, List.setIfInBounds_toArray, List.set_cons_zero, List.set_cons_succ])
          refine wpAnyIn_done (by kernel_rfl) ?_ _
          go_wp2
          first | go_end0 | (refine bodyPost_ret (results_none rfl _ _ _) rfl ?_)
          exact ⟨⟨_, rfl⟩, .inr ⟨_, trivial, HQ.out⟩⟩
      · rw [if_pos (by kernel_rfl)]
        go_simp
        refine ⟨trivial, callsIn_wide.2 (HCP.out.mono ?_)⟩
        rintro e w6 ⟨A2, c2, rfl, hsl6, hb6⟩
        have HS6 := Jh (And.intro hsl6 hb6)
        clear hsl6 hb6
        obtain ⟨CV, hCV⟩ : ∃ C, C = contV x A2 c2 := ⟨_, rfl⟩
        rw [← hCV]
        have HCV := Jh hCV
        clear hCV
        refine hK _ _ ?_
        clear hK K
        (try simp only [Act.put, List.getElem_toArray, List.getElem_cons_succ, List.getElem_cons_zero, List.setIfInBounds_toArray, List.set_cons_zero, List.set_cons_succ])
        refine wpAnyIn_ready (rs := [3]) (by kernel_rfl) (by simp) ?_
        refine AllReadyIn.cons rfl (fun K hK => ?_) AllReadyIn.nil
        rw [if_pos (by kernel_rfl)]
        refine wpIn_of_wpW (by intro c h; cases h) (wp_load_row 30 _ rfl g4 rfl 30 #[.int .i64 ra, .int .i64 rn, .int .i64 ca, .int .i64 cn] (0, 0) _ (HG46.out _ HS6.out.2) undCell rfl (infCe4 _ _ _ _) (hK _ _ ?_))
        clear hK K
        (try simp only [Act.put, List.getElem_toArray, List.getElem_cons_succ, List.getElem_cons_zero, List.setIfInBounds_toArray, List.set_cons_zero, List.set_cons_succ])
        refine wpAnyIn_ready (rs := [6]) (by kernel_rfl) (by simp) ?_
        refine AllReadyIn.cons rfl (fun K hK => ?_) AllReadyIn.nil
        obtain ⟨fn, tmps, asg, bdy, hy, hR⟩ := HY5.out w6 A2 c2 HS6.out.1 HS6.out.2
        rw [← HCV.out] at hy
        have HR5 := Jh hR
        clear hR
        rw [if_pos (by kernel_rfl)]
        go_simp
        refine (RoundIn.wideN HR5.out).mono ?_
        clear hy
        rintro e W7 ⟨q, rfl, (⟨rfl, hq⟩ | ⟨rfl, hq⟩)⟩
        · have HQ := Jh hq
          clear hq
          refine hK _ _ ?_
          clear hK K
          (try simp only [Act.put, List.getElem_toArray, List.getElem_cons_succ, List.getElem_cons_zero, List.setIfInBounds_toArray, List.set_cons_zero, List.set_cons_succ])
          refine wpAnyIn_take (i := 7) (v := .bool false) rfl rfl (by kernel_rfl) (by kernel_rfl) (by kernel_rfl) (fun _ _ _ h => h) ⟨Or.inl ⟨by kernel_rfl, fun _ => by kernel_rfl⟩, fun _ => rfl⟩ ?_
          (try simp only [Act.put, List.getElem_toArray, List.getElem_cons_succ, List.getElem_cons_zero, List.setIfInBounds_toArray, List.set_cons_zero, List.set_cons_succ])
          refine wpAnyIn_take (i := 8) (v := .bool false) rfl rfl (by kernel_rfl) (by kernel_rfl) (by kernel_rfl) (fun _ _ _ h => h) ⟨Or.inl ⟨by kernel_rfl, fun _ => by kernel_rfl⟩, fun _ => rfl⟩ ?_
          (try simp only [Act.put, List.getElem_toArray, List.getElem_cons_succ, List.getElem_cons_zero, List.setIfInBounds_toArray, List.set_cons_zero, List.set_cons_succ])
          refine wpAnyIn_done (by kernel_rfl) ?_ _
          go_wp2
          go_roundw
          case measure => simp [intOf]; omega
          case rel => exact ⟨j + 1, by omega, by go_num, HQ⟩
        · have HQ := Jh hq
          clear hq
          refine hK _ _ ?_
          clear hK K
          (try simp only [Act.put, List.getElem_toArray, List.getElem_cons_succ, List.getElem_cons_zero, List.setIfInBounds_toArray, List.set_cons_zero, List.set_cons_succ])
          refine wpAnyIn_take (i := 7) (v := .bool true) rfl rfl (by kernel_rfl) (by kernel_rfl) (by kernel_rfl) (fun _ _ _ h => h) ⟨Or.inl ⟨by kernel_rfl, fun _ => by kernel_rfl⟩, fun _ => rfl⟩ ?_
          (try simp only [Act.put, List.getElem_toArray, List.getElem_cons_succ, List.getElem_cons_zero, List.setIfInBounds_toArray, List.set_cons_zero, List.set_cons_succ])
          refine wpAnyIn_take (i := 8) (v := .bool true) rfl rfl (by kernel_rfl) (by kernel_rfl) (by kernel_rfl) (fun _ _ _ h => h) ⟨Or.inl ⟨by kernel_rfl, fun _ => by kernel_rfl⟩, fun _ => rfl⟩ ?_
          (try simp only [Act.put, List.getElem_toArray, List.getElem_cons_succ, List.getElem_cons_zero, List.setIfInBounds_toArray, List.set_cons_zero, List.set_cons_succ])
          refine wpAnyIn_done (by kernel_rfl) ?_ _
          go_wp2
          first | go_end0 | (refine bodyPost_ret (results_none rfl _ _ _) rfl ?_)
          exact ⟨⟨_, rfl⟩, .inr ⟨_, trivial, HQ.out⟩⟩
  · obtain rfl : j = nM := by omega
    obtain ⟨pre, hp1, hp2, hp3⟩ := hR.out
    have HFIN := Jh (show pre.map Hn.p = M ∧ J pre wr from ⟨by rw [hp1, HNM.out, List.take_length], hp2⟩)
    clear hp1 hp2 hp3 hR
    go_wp2
    go_end0
    exact ⟨⟨_, rfl⟩, .inl ⟨pre, HFIN.out⟩⟩
end Go.Proofs.YtelombedjkbckaaGreatDoor
namespace Go.Proofs.YtelombedjkbckaaGreatDoor
set_option linter.unusedSimpArgs false
set_option linter.unusedVariables false
open Go Go.RowKit Go.Shelf Go.Maps

theorem all_c (w : World) (v : Option Addr) : Calls Tryz.prog 14 #[.pointer v] w fun e w' => e = .returned (.func (.func 34) #[] #[.pointer (some ⟨w.heap.size, 0, none⟩)]) ∧ w' = w.alloc (.cells #[.pointer v] 24) := by
 go_enter Tryz.func14, Tryz.ntmps14
 go_wp2
 go_ret
 exact ⟨rfl, rfl⟩
/-- of a store that is nil there is none. -/
theorem all1_nil {w : World} {Bs : Nat} {Z : Nat → Prop} {V : List Hn → Hn → World → Prop} (hbs : w.heap[Bs]? = some (.cells #[.pointer none] 24)) :
    Zz.SeqV [30] (fun b => b = Bs ∨ Z b) Tryz.prog 34 #[.pointer (some ⟨Bs, 0, none⟩)] Hn.vals V (fun xs => xs.map Hn.p = []) (fun _ => True) 0 w := by
 intro l J Jx W hW hJ hJx hY h0
 have hbl := (Jg hbs).1
 have hc0 : W.cell? ⟨Bs, 0, none⟩ = some (.pointer none) := cell_of_row _ _ 0 _ _ _ ((hW.block Bs hbl).trans hbs)
 have H0 := Jh h0
 clear hJ hJx hY h0 hbs hW hbl
 go_enter Tryz.func34, Tryz.ntmps34
 go_wp2
 first | go_end0 | (refine bodyPost_ret (results_none rfl _ _ _) rfl ?_)
 exact ⟨⟨_, rfl⟩, .inl ⟨[], rfl, H0.out⟩⟩
theorem wpOpsIn_ofR {l n : Nat} {P : Program} {ops : Array Oper} {Q : Exit → Act → World → Prop} (hQ : ¬ LetsOut Q) (hd : ∀ o ∈ ops, ∀ c, o.op ≠ .defer c) : ∀ (is : List Nat) (a : Act) (w : World), wpOps P ops Q is a w → wpOpsIn (Fence.wide.inRound l) n P ops Q is a w
 | [], _, _, h => h
 | i :: rest, a, w, h => by
  rw [wpOpsIn_cons]
  rw [wpOps_cons] at h
  unfold wpOp at h
  unfold wpOpIn
  cases ho : ops[i]? with
  | none => rw [ho] at h; exact wpOpsIn_ofR hQ hd rest a w h
  | some o =>
   rw [ho] at h
   dsimp only at h ⊢
   by_cases hw : Region.wanted o (yielded ops a.tmps) = true
   · rw [if_pos hw] at h ⊢
     rcases h with h | h
     · exact Oper.wpIn_mono (fun a w hk => wpOpsIn_ofR hQ hd rest a w hk) (wpIn_of_wpR (hd o (Array.mem_of_getElem? ho)) h)
     · exact absurd h.2 hQ
   · rw [if_neg hw] at h ⊢
     exact ⟨fun _ _ => trivial, wpOpsIn_ofR hQ hd rest _ w h⟩
/-- a region that draws its order, within a round, by what is held. -/
theorem wpIn_region_heldR {l n id : Nat} {P : Program} {ops : Array Oper} {Q : Exit → Act → World → Prop} {S : World → Prop} {a : Act} {w : World} (hm : P.follows .mixedOrders = true) (hQ : ¬ LetsOut Q) (hd : ops.all (fun o => match o.op with | .defer _ => false | _ => true) = true) (hS : S w.drew)
    (h : S w.drew → wpAnyH P .any ops Q S ops.size (Array.replicate ops.size false) a w.drew) : (Code.region id ops true).wpIn (Fence.wide.inRound l) n P Q a w := by
 refine wpIn_region_draw fun t => ?_
 simp only [Region.schedule, hm, Bool.true_or, if_true]
 refine wpOpsIn_ofR hQ (fun o ho c hc => ?_) _ _ _ (wpAny_sound ops.size t _ a _ (wpAny_of_held _ _ _ _ (h hS)))
 obtain ⟨i, hi, rfl⟩ := Array.getElem_of_mem ho
 have := Array.all_eq_true.1 hd i hi
 rw [hc] at this
 cases this
end Go.Proofs.YtelombedjkbckaaGreatDoor
namespace Go.Proofs.YtelombedjkbckaaGreatDoor
open Go Go.RowKit Go.Shelf

set_option maxRecDepth 100000 in
set_option maxHeartbeats 2000000 in
theorem rcsame_c (x y : Ct) (w : World) (B : Nat) (A A' : Option Addr) (c c' : Nat) (hd : x.t.d.ok) (hs : SlAt w B A c x.t.l) (hd' : y.t.d.ok) (hs' : SlAt w B A' c' y.t.l) (hB : B ≤ w.heap.size) :
    Calls Tryz.prog 18 #[contV x A c, contV y A' c'] w fun e w' => e = .returned (.bool (sameC x y)) ∧ Below w.heap.size w w' := by
 obtain ⟨W0, hW0⟩ : ∃ W0, W0 = (w.alloc (.cells (contA x A c) 43)).alloc (.cells (contA y A' c') 43) := ⟨_, rfl⟩
 have hbel : Below w.heap.size w W0 := by rw [hW0]; exact ((Below.refl _ w).alloc (Nat.le_refl _) _).alloc (by simp) _
 have hz0 : W0.heap.size = w.heap.size + 2 := by rw [hW0]; simp
 have hk0 : W0.heap[w.heap.size]? = some (.cells (contA x A c) 43) := by rw [hW0]; exact (heapOld _ _ _ (by simp)).trans (heap_alloc_new _ _)
 have hk1 : W0.heap[w.heap.size + 1]? = some (.cells (contA y A' c') 43) := by
  rw [hW0]
  have := heap_alloc_new (w.alloc (.cells (contA x A c) 43)) (.cells (contA y A' c') 43)
  rwa [World.size_alloc] at this
 have hT := fun wx (hx : Below W0.heap.size W0 wx) => rsame_c x.t y.t wx B A A' c c' hd ((hs.below (hbel.mono hB)).below (hx.mono (by omega))) hd' ((hs'.below (hbel.mono hB)).below (hx.mono (by omega))) (by have := hx.size; omega)
 have hV : ∀ wx, (Op.equalIn 10000 34 (.agg x.v.cells.toArray) (.agg y.v.cells.toArray)).run Tryz.prog wx = .ok (decide (x.v = y.v)) wx := fun wx => eqV wx x.v y.v
 have hrow := fun wx (hx : Below W0.heap.size W0 wx) => cont_row ((hx.block w.heap.size (by omega)).trans hk0)
 have hrow' := fun wx (hx : Below W0.heap.size W0 wx) => cont_row ((hx.block (w.heap.size + 1) (by omega)).trans hk1)
 obtain ⟨CA, hCA⟩ : ∃ C, C = contA x A c := ⟨_, rfl⟩
 obtain ⟨CB, hCB⟩ : ∃ C, C = contA y A' c' := ⟨_, rfl⟩
 rw [contV, contV, ← hCA, ← hCB]
 rw [← hCA, ← hCB] at hW0
 have hinf := infNl x.t.d A x.t.l.length c
 have hinf' := infNl y.t.d A' y.t.l.length c'
 have hiv := infVl x.v
 have hiv' := infVl y.v
 obtain ⟨b, hb⟩ : ∃ b, b = w.heap.size := ⟨_, rfl⟩
 have e0 := (hrow W0 (Below.refl _ _)).1
 have e1 := (hrow' W0 (Below.refl _ _)).1
 have hr1 := (hrow W0 (Below.refl _ _)).2.1
 have hr1' := (hrow' W0 (Below.refl _ _)).2.1
 have hr7 := fun wx hx => (hrow wx hx).2.2
 have hr7' := fun wx hx => (hrow' wx hx).2.2
 obtain ⟨r, hr⟩ : ∃ r, sameC x y = r := ⟨_, rfl⟩
 rw [hr]
 simp only [sameC] at hr
 rw [nodeV, nodeV] at hT
 obtain ⟨N, hN⟩ : ∃ N, N = nodeA x.t.d A x.t.l.length c := ⟨_, rfl⟩
 obtain ⟨N', hN'⟩ : ∃ N, N = nodeA y.t.d A' y.t.l.length c' := ⟨_, rfl⟩
 rw [← hN, ← hN'] at hT
 rw [← hN] at hr7 hinf
 rw [← hN'] at hr7' hinf'
 clear hrow hrow' hk0 hk1 hd hs hd' hs' hCA hCB hN hN'
 obtain ⟨k, v, t⟩ := x
 obtain ⟨k', v', t'⟩ := y
 dsimp only at hT hV e0 e1 hr1 hr1' hr7 hr7' hr hinf hinf' hiv hiv'
 obtain ⟨vc, hvc⟩ : ∃ u, u = v.cells := ⟨_, rfl⟩
 obtain ⟨vc', hvc'⟩ : ∃ u, u = v'.cells := ⟨_, rfl⟩
 rw [← hvc] at hV hr1 hiv
 rw [← hvc'] at hV hr1' hiv'
 rw [← hb] at e0 e1 hr1 hr1' hr7 hr7' hz0
 have HT := Jh hT
 have HV := Jh hV
 have HI := Jh hinf
 have HI' := Jh hinf'
 have HJ := Jh hiv
 have HJ' := Jh hiv'
 have HR1 := Jh hr1
 have HR1' := Jh hr1'
 have HR7 := Jh hr7
 have HR7' := Jh hr7'
 have HR := Jh hr
 have HW := Jh hW0
 have HBL := Jh hbel
 clear hT hV hinf hinf' hiv hiv' hr1 hr1' hr7 hr7' hr hW0 hvc hvc' hbel
 have HB := Jh hb
 clear hb
 by_cases ek : k = k'
 case neg =>
  have q1 : (k == k') = false := by simpa using ek
  go_enter Tryz.func18, Tryz.ntmps18
  go_upto_region 1 with (fail)
  rw [← HW.out, ← HB.out]
  go_wp2
  go_ret
  exact ⟨ret_bool (by rw [← HR.out]; simp [ek]), HBL.out⟩
 subst ek
 by_cases ev : v = v'
 case neg =>
  have hv1 : ∀ wx, (Op.equalIn 10000 34 (.agg vc.toArray) (.agg vc'.toArray)).run Tryz.prog wx = .ok false wx := fun wx => by have := HV.out wx; rwa [decide_eq_false ev] at this
  go_enter Tryz.func18, Tryz.ntmps18
  go_upto_region 1 with (fail)
  rw [← HW.out, ← HB.out]
  go_wp2_with (first | (refine wpList_mid rfl 34 _ rfl b 1 rfl vc _ HR1.out undVl rfl HJ.out ?_) | (refine wpList_mid rfl 34 _ rfl (b + 1) 1 rfl vc' _ HR1'.out undVl rfl HJ'.out ?_))
  go_ret
  exact ⟨ret_bool (by rw [← HR.out]; simp [ev]), HBL.out⟩
 subst ev
 have hv1 : ∀ wx, (Op.equalIn 10000 34 (.agg vc.toArray) (.agg vc'.toArray)).run Tryz.prog wx = .ok true wx := fun wx => by have := HV.out wx; rwa [decide_eq_true rfl] at this
 have hb00 : Below W0.heap.size W0 W0 := Below.refl _ _
 go_enter Tryz.func18, Tryz.ntmps18
 go_upto_region 1 with (fail)
 rw [← HW.out, ← HB.out]
 go_wp2_with (first | (refine wpList_mid rfl 34 _ rfl b 1 rfl vc _ HR1.out undVl rfl HJ.out ?_) | (refine wpList_mid rfl 34 _ rfl (b + 1) 1 rfl vc' _ HR1'.out undVl rfl HJ'.out ?_) | (refine wpList_mid rfl 41 _ rfl b 7 rfl N.toList _ (HR7.out _ hb00) undN rfl HI.out ?_; simp only [Array.toArray_toList]) | (refine wpList_mid rfl 41 _ rfl (b + 1) 7 rfl N'.toList _ (HR7'.out _ hb00) undN rfl HI'.out ?_; simp only [Array.toArray_toList]) | (go_at_call 39; refine (HT.out _ hb00).mono ?_; rintro e w3 ⟨rfl, hb3⟩))
 go_ret
 exact ⟨ret_bool (by rw [← HR.out]; simp), HBL.out.trans (hb3.mono HBL.out.size)⟩
end Go.Proofs.YtelombedjkbckaaGreatDoor
namespace Go.Proofs.YtelombedjkbckaaGreatDoor
set_option linter.unusedSimpArgs false
set_option linter.unusedVariables false
open Go Go.RowKit Go.Shelf Go.Maps

/-- a slice of cells with contents; all lies below B. -/
def RowC (w : World) (B : Nat) (A : Option Addr) (c : Nat) (l : List (Ad × Ct)) : Prop :=
 l.length ≤ c ∧ c ≤ 9223372036854775807 ∧ (l = [] ∨ ∃ b o, A = some ⟨b, o, none⟩ ∧ b < B ∧ ∀ j (h : j < l.length), ∃ A' c', w.rangeAt b (o + j * 33) (l[j].1.cs ++ (contA l[j].2 A' c').toList) ∧ SlAt w B A' c' l[j].2.t.l)
theorem RowC.nil (w : World) (B : Nat) (A : Option Addr) (c : Nat) (hc : c ≤ 9223372036854775807) : RowC w B A c [] := ⟨Nat.zero_le _, hc, .inl rfl⟩
theorem RowC.below {w w' : World} {B B' : Nat} {A : Option Addr} {c : Nat} {l : List (Ad × Ct)} (h : RowC w B A c l) (hb : Below B w w') (hB : B ≤ B') : RowC w' B' A c l := by
 obtain ⟨h1, h2, h3⟩ := h
 refine ⟨h1, h2, h3.elim .inl ?_⟩
 rintro ⟨b, o, e, hl, h4⟩
 refine .inr ⟨b, o, e, Nat.lt_of_lt_of_le hl hB, fun j hj => ?_⟩
 obtain ⟨A', c', h5, h6⟩ := h4 j hj
 exact ⟨A', c', fun i v hv => (World.cell?_of_block (a := ⟨b, o + j * 33 + i, none⟩) (hb.block b hl)).trans (h5 i v hv), (h6.below hb).more hB⟩
/-- the parts of one of them. -/
theorem rowC_parts {w : World} {g o : Nat} {a : Ad} {x : Ct} {A : Option Addr} {c : Nat} (h : w.rangeAt g o (a.cs ++ (contA x A c).toList)) : w.rangeAt g o a.cs ∧ w.rangeAt g (o + 4) (contA x A c).toList := by
 have hl : a.cs.length = 4 := rfl
 refine ⟨fun i v hv => h i v ?_, fun i v hv => ?_⟩
 · rw [List.getElem?_append_left (List.getElem?_eq_some_iff.1 hv).1]; exact hv
 · rw [Nat.add_assoc]
   refine h (4 + i) v ?_
   rw [List.getElem?_append_right (by omega), hl, Nat.add_sub_cancel_left]; exact hv
theorem ix_atRc {o : Oper} {ρ : Operand → Value} {w : World} (x y : Operand) (ho : o.op = .indexAddr 22 x y) (g of ln cap i : Nat) (hx : ρ x = .slice (some ⟨g, of, none⟩) ln cap) (hy : ρ y = .int .i64 i) (hi : i < ln) : (execOp ρ o).run Tryz.prog w = .ok (.value (.pointer (some ⟨g, of + i * 33, none⟩))) w := by
 have h1 : (0 : Int) ≤ i := by omega
 have h2 : (i : Int) < ln := by omega
 unfold execOp
 simp only [ho, hx, hy]
 simp [go_sem, h1, h2]
theorem eqAd_self (w : World) (a : Ad) : (Op.equalIn 10000 30 (.agg a.cs.toArray) (.agg a.cs.toArray)).run Tryz.prog w = .ok true w := by
 obtain ⟨x, y, z, u⟩ := a
 simp [go_sem, Ad.cs]
theorem neAd_run {o : Oper} {ρ : Operand → Value} {w : World} (x y : Operand) (ho : o.op = .binOp .neq 30 x y 30) (a : Ad) (hx : ρ x = .agg a.cs.toArray) (hy : ρ y = .agg a.cs.toArray) : (execOp ρ o).run Tryz.prog w = .ok (.value (.bool false)) w := by
 have h' := eqAd_self w a
 obtain ⟨xa, hxa⟩ : ∃ xa, xa = a.cs.toArray := ⟨_, rfl⟩
 rw [← hxa] at hx hy h'
 clear hxa
 have h0 : (binOp .neq 30 (.agg xa) (.agg xa)) = ((Op.equalIn 10000 30 (.agg xa) (.agg xa)) >>= fun b => pure (.bool (!b))) := rfl
 have h1 : (binOp .neq 30 (.agg xa) (.agg xa)).run Tryz.prog w = .ok (.bool false) w := by
  rw [h0, Sem.run_bind, h']; rfl
 unfold execOp
 have h2 : (eqGuard .neq 30 x y (.agg xa) (.agg xa)).run Tryz.prog w = .ok () w := by kernel_rfl
 simp only [ho, hx, hy, Sem.run_bind, h2, h1, Result.andThen_ok]
 rfl
theorem yieldsIf_midC {P : Program} {ops : Array Oper} {S : World → Prop} {op : Oper} {a : Act} (hw : Region.wanted op (yielded ops a.tmps) = true) (ty : TypeId) (x : Operand) (ho : op.op = .load ty x)
    (b o : Nat) (hx : a.eval x = .pointer (some ⟨b, o, none⟩)) (N : Array Value) (d : TypeDesc) (hS : ∀ w, S w → w.rangeAt b o N.toList)
    (hu : P.underlying ty = some d) (hd : d.isRow = true) (hi : (P.info? ty).map (·.size) = some N.toList.length) : YieldsIf P ops S op (.agg N) a := by
 have := yieldsIf_load_mid hw ty x ho b o hx N.toList d hS hu hd hi
 rwa [Array.toArray_toList] at this
end Go.Proofs.YtelombedjkbckaaGreatDoor
namespace Go.Proofs.YtelombedjkbckaaGreatDoor
open Go Go.RowKit Go.Shelf Go.Maps

theorem lenNil_c (w : World) : Calls Tryz.prog 16 #[.pointer none] w fun e w' => e = .returned (.int .i64 0) ∧ w' = w := by
 go_enter Tryz.func16, Tryz.ntmps16
 go_wp2
 first | go_ret | go_ret2
 exact ⟨rfl, rfl⟩
theorem lenZ_c {w : World} {p n : Nat} {M : List (Ad × Ct)} {Z : Nat → Prop} (h : StZ w p n M Z) : Calls Tryz.prog 16 #[.pointer (some ⟨p, 0, none⟩)] w fun e w' => e = .returned (.int .i64 (M.length : Nat)) ∧ Below w.heap.size w w' := by
 obtain ⟨m, D, T, hst, hrep, -⟩ := h
 rw [← hrep.size]
 exact len_c w p m n D hst
end Go.Proofs.YtelombedjkbckaaGreatDoor
