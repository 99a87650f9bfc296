/- fill: Len of any axis; Take where the range is out; the law's cell and node. -/
import Derived.Test.YtbkmnboicihchaaIr
namespace Go.Proofs.Ytbkmnboicihchaa
set_option linter.unusedSimpArgs false
set_option linter.unusedVariables false
open Go Go.RowKit Go.Shelf Go.Maps

set_option maxRecDepth 100000 in
theorem lenW_c {w : World} {p : Nat} {L : IL} (h : AxW w p L) (hgd : L.Ok) :
    Calls Try.prog 25 #[.pointer (some ⟨p, 0, none⟩)] w fun e w' => e = .returned (.int .i64 (L.alive.length : Nat)) ∧ AxRd w' p L ∧ KeepA p w w' := by
  have HR := Lib.hid (readyW_c h hgd)
  obtain ⟨m, hm⟩ : ∃ m, L.alive.length = m := ⟨_, rfl⟩
  have HM := Lib.hid hm
  rw [hm]
  have la := hgd.len
  have lb := IL.alive_len L
  have hm2 : m ≤ 1000 := by omega
  clear h hm hgd la lb
  go_enter Try.func25, Try.ntmps25
  go_wp2_with (go_at_call 42; refine HR.out.mono ?_; rintro e w1 ⟨rfl, hR⟩; have HX := Lib.hid hR; obtain ⟨Ai, ci, Al, cl, b, Aa, ca, Av, cv, hA⟩ := hR.1; have c4 : w1.cell? ⟨p, 4, none⟩ = some (.slice Av m cv) := HM.out ▸ cell_of_row _ _ 4 _ _ _ hA.own; clear hA hR)
  go_ret
  exact ⟨rfl, HX.out⟩
set_option maxRecDepth 100000 in
/-- the rows are out of range. -/
theorem takeOut_c {w : World} {s p : Nat} {x y z : Addr} {L : IL} (h : w.heap[s]? = some (.cells #[.pointer (some ⟨p, 0, none⟩), .pointer (some x), .pointer (some y), .pointer (some z)] 72)) (hL : L.Ok) (hp : AxW w p L) (a b c d : Int) (ht : thereB (L.alive.length : Nat) a c = false) :
    Calls Try.prog 7 #[.pointer (some ⟨s, 0, none⟩), .int .i64 a, .int .i64 b, .int .i64 c, .int .i64 d] w fun e w' => e = .returned (.tuple #[.agg blockZ, .int .i64 2]) ∧ KeepA p w w' := by
  obtain ⟨g, hg⟩ : ∃ g, g = w.heap.size := ⟨_, rfl⟩
  obtain ⟨W, hW⟩ : ∃ W, W = w.alloc (.cells blockZ 26) := ⟨_, rfl⟩
  have hk : W.heap[g]? = some (.cells blockZ 26) := by rw [hW, hg]; exact heap_alloc_new _ _
  have hb : Below w.heap.size w W := by rw [hW]; exact (Below.refl _ w).alloc (Nat.le_refl _) _
  have hsW := (hb.block s (Array.getElem?_eq_some_iff.1 h).1).trans h
  have c0 : W.cell? ⟨s, 0, none⟩ = some (.pointer (some ⟨p, 0, none⟩)) := cell_of_row _ _ 0 _ _ _ hsW
  have HWH := Lib.hid (wholeS_c hsW)
  have HLN := Lib.hid (lenW_c (hp.below hb) hL)
  have hpg : p < g := by rw [hg]; exact hp.lt
  have la := hL.len
  have lb := IL.alive_len L
  obtain ⟨m, hm⟩ : ∃ m, L.alive.length = m := ⟨_, rfl⟩
  rw [hm] at HLN ht lb
  have HTH := Lib.hid (fun (w : World) => there_c w (m : Int) a c (by omega))
  rw [ht] at HTH
  have HG := Lib.hid hg
  have HW := Lib.hid hW
  have HK := Lib.hid hk
  have HB := Lib.hid hb
  have HI := Lib.hid infB3
  have HPG := Lib.hid hpg
  clear hg hW hk hb hsW h hL hp la lb hm ht hpg
  go_enter Try.func7, Try.ntmps7
  go_upto_region 1 with (fail)
  change Code.wp _ _ _ _ (w.alloc (.cells blockZ 26))
  rw [← HW.out, ← HG.out]
  go_upto_region 4 with (first | (go_at_call 23; refine HWH.out.mono ?_; rintro e w' ⟨rfl, rfl⟩) | (go_at_call 25; refine HLN.out.mono ?_; rintro e w1 ⟨rfl, hR⟩; have HX := Lib.hid hR; clear hR) | (go_at_call 24; refine (HTH.out _).mono ?_; rintro e w' ⟨rfl, rfl⟩) | fail)
  have HK1 := Lib.hid ((HX.out.2.block g (Array.getElem?_eq_some_iff.1 HK.out).1 (by have := HPG.out; omega)).trans HK.out)
  go_wp2_with (first | (refine wpList_store_row rfl 26 _ _ rfl g blockZ rfl rfl 26 blockZ HK1.out (HI.out _ _ _) rfl (by kernel_rfl) ?_) | fail)
  refine bodyPost_ret (v := .tuple #[.agg blockZ, .int .i64 2]) (results_cell_flagA (p := 10) (u := 11) rfl _ _ g 26 blockZ (0, 0) _ rfl (setRow_heap _ _ _ _ _ _ HK1.out) undB3 rfl (HI.out _ _ _)) rfl ?_
  refine ⟨rfl, ?_⟩
  have h1 := (KeepA.of (p := p) HB.out).trans HX.out.2
  exact ⟨h1.os, h1.tape, h1.output, by simpa using h1.size, fun k hk hn => (setRow_other _ _ _ _ (by have := HG.out; omega)).trans (h1.block k hk hn)⟩
/-- a node that is one cell. -/
def oneD (ra rn ca cn : Int) : ND := ⟨1, ⟨0, 0, 0, ⟨#[]⟩, false, 0⟩, ⟨#[]⟩, ⟨ra, rn, ca, cn, false, false⟩, ⟨0, 0, 0, 0, false, false⟩, 0⟩
theorem infC4 : ∀ a b c d : Value, (Try.prog.info? 33).map (·.size) = some (#[a, b, c, d] : Array Value).size := fun _ _ _ _ => by kernel_rfl
theorem undC4 : Try.prog.underlying 33 = some (.struct (Try.prog.fieldsOf 33)) := by kernel_rfl
set_option maxRecDepth 100000 in
theorem at28_c (w : World) (r c : Int) : Calls Try.prog 22 #[.int .i64 r, .int .i64 c] w fun e w' => e = .returned (.agg #[.int .i64 0, .int .i64 r, .int .i64 0, .int .i64 c]) ∧ Below w.heap.size w w' := by
  obtain ⟨g, hg⟩ : ∃ g, g = w.heap.size := ⟨_, rfl⟩
  obtain ⟨W, hW⟩ : ∃ W, W = w.alloc (.cells #[.int .i64 0, .int .i64 0, .int .i64 0, .int .i64 0] 33) := ⟨_, rfl⟩
  have hk : W.heap[g]? = some (.cells #[.int .i64 0, .int .i64 0, .int .i64 0, .int .i64 0] 33) := by rw [hW, hg]; exact heap_alloc_new _ _
  have hb : Below w.heap.size w W := by rw [hW]; exact (Below.refl _ w).alloc (Nat.le_refl _) _
  have HG := Lib.hid hg
  have HW := Lib.hid hW
  have HK := Lib.hid hk
  have HB := Lib.hid hb
  have HI := Lib.hid infC4
  clear hg hW hk hb
  go_enter Try.func22, Try.ntmps22
  go_upto_region 1 with (fail)
  change Code.wp _ _ _ _ (w.alloc (.cells #[.int .i64 0, .int .i64 0, .int .i64 0, .int .i64 0] 33))
  rw [← HW.out, ← HG.out]
  go_wp2_with (first | (refine wpList_store_row rfl 33 _ _ rfl g #[.int .i64 0, .int .i64 r, .int .i64 0, .int .i64 c] rfl rfl 33 #[.int .i64 0, .int .i64 0, .int .i64 0, .int .i64 0] HK.out (HI.out _ _ _ _) rfl (by kernel_rfl) ?_) | fail)
  refine bodyPost_ret (v := .agg #[.int .i64 0, .int .i64 r, .int .i64 0, .int .i64 c]) (results_cell_row rfl _ _ g 33 #[.int .i64 0, .int .i64 r, .int .i64 0, .int .i64 c] (0, 0) _ rfl (setRow_heap _ _ _ _ _ _ HK.out) undC4 rfl (HI.out _ _ _ _)) rfl ?_
  exact ⟨rfl, below_row HB.out (by rw [HG.out]; exact Nat.le_refl _) _⟩
set_option maxRecDepth 100000 in
theorem one28_c (w : World) (ra rn ca cn : Int) : Calls Try.prog 21 #[.agg #[.int .i64 ra, .int .i64 rn, .int .i64 ca, .int .i64 cn]] w fun e w' => e = .returned (.agg (nodeA (oneD ra rn ca cn) none 0 0)) ∧ Below w.heap.size w w' := by
  obtain ⟨g, hg⟩ : ∃ g, g = w.heap.size := ⟨_, rfl⟩
  obtain ⟨W, hW⟩ : ∃ W, W = (w.alloc (.cells #[.int .i64 ra, .int .i64 rn, .int .i64 ca, .int .i64 cn] 33)).alloc (.cells (nodeA zD none 0 0) 44) := ⟨_, rfl⟩
  obtain ⟨N, hN⟩ : ∃ N, N = nodeA (oneD ra rn ca cn) none 0 0 := ⟨_, rfl⟩
  have hk0 : W.heap[g]? = some (.cells #[.int .i64 ra, .int .i64 rn, .int .i64 ca, .int .i64 cn] 33) := by rw [hW, hg]; exact (heapOld _ _ _ (by simp)).trans (heap_alloc_new _ _)
  have hk : W.heap[g + 1]? = some (.cells (nodeA zD none 0 0) 44) := by
    rw [hW, hg]; have := heap_alloc_new (w.alloc (.cells #[.int .i64 ra, .int .i64 rn, .int .i64 ca, .int .i64 cn] 33)) (.cells (nodeA zD none 0 0) 44); rwa [World.size_alloc] at this
  have hb : Below w.heap.size w W := by rw [hW]; exact ((Below.refl _ w).alloc (Nat.le_refl _) _).alloc (by simp) _
  have HG := Lib.hid hg
  have HW := Lib.hid hW
  have HK := Lib.hid hk
  have HB := Lib.hid hb
  have HR0 := Lib.hid (range_row4 hk0).1
  have HR1 := Lib.hid (range_row4 hk0).2
  have HIL := Lib.hid (show ∀ a b : Value, (Try.prog.info? 31).map (·.size) = some [a, b].length from fun _ _ => infIk)
  have HN := Lib.hid hN
  have HNS : Hid (N.size = 22 ∧ N.all (·.oneCell') = true) := Lib.hid (by rw [hN]; exact ⟨rfl, node_one _ _ _ _⟩)
  rw [← hN]
  clear hg hW hk hk0 hb hN
  go_enter Try.func21, Try.ntmps21
  go_upto_region 1 with (first | (refine wpList_nodeVar rfl rfl (w.heap.size + 1) (by simp) ?_) | fail)
  change Code.wp _ _ _ _ ((w.alloc (.cells #[.int .i64 ra, .int .i64 rn, .int .i64 ca, .int .i64 cn] 33)).alloc (.cells (nodeA zD none 0 0) 44))
  rw [← HW.out, ← HG.out]
  go_wp2_with (first | (refine wpList_mid rfl 31 _ rfl g 0 rfl [.int .i64 ra, .int .i64 rn] _ HR0.out ikUnd rfl (HIL.out _ _) ?_) | (refine wpList_mid rfl 31 _ rfl g 2 rfl [.int .i64 ca, .int .i64 cn] _ HR1.out ikUnd rfl (HIL.out _ _) ?_) | (refine wpList_buildSome rfl 44 _ rfl N ?_ ?_; focus (rw [HN.out]; kernel_rfl)) | (refine wpList_store_row rfl 44 _ _ rfl (g + 1) N rfl rfl 44 (nodeA zD none 0 0) HK.out (infS HNS.out.1) HNS.out.1.symm HNS.out.2 ?_) | fail)
  refine bodyPost_ret (v := .agg N) (results_cell_row rfl _ _ (g + 1) 44 N (0, 0) _ rfl (setRow_heap _ _ _ _ _ _ HK.out) undN rfl (infS HNS.out.1)) rfl ?_
  exact ⟨rfl, below_row HB.out (by rw [HG.out]; omega) _⟩
end Go.Proofs.Ytbkmnboicihchaa
