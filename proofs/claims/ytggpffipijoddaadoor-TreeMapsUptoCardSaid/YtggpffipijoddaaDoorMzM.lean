/- The walk of the law TreeMaps. -/
import Derived.Test.YtggpffipijoddaaDoorMyM
import Derived.Test.YtggpffipijoddaaDoorAwM
namespace Go.Proofs.YtggpffipijoddaaDoor
open Go.RowKit Go.Shelf

set_option maxRecDepth 100000 in
set_option maxHeartbeats 8000000 in
theorem treeMaps_walk (t : Tr) (w : World) (A : Option Addr) (c : Nat) (by_ : Int) (hd : t.d.ok) (hs : SlAt w w.heap.size A c t.l) (hz : t.size ≤ 1048576) (hsh : Short t) (ht : Tab w) :
    Calls Tryd.prog 6 #[nodeV t.d A t.l.length c, .int .i64 by_] w fun e w' => e = .returned (.bool true) ∧ Below w.heap.size w w' := by
  have hG := fun wx (hx : Below w.heap.size w wx) => great_c t wx w.heap.size A c hd (hs.below hx) hx.size hz
  have hNo := fun wx (hx : Below w.heap.size w wx) => (nodes_c t wx w.heap.size A c hd (hs.below hx) hx.size hz).mono (fun _ _ h => nodes_sl hx.size h)
  have hC := fun wx (hx : Below w.heap.size w wx) => rcode_c t wx w.heap.size A c hd (hs.below hx) hx.size hz hsh
  have hM := fun (wx : World) (hx : Below w.heap.size w wx) (sb : Nat) (w0 : World) (hsb : wx.heap.size = sb + 1) (hj : JSeen sb w0 0 wx) => mapF_c t wx A c hd ((hs.below hx).more hx.size) hz 20 #[.pointer (some ⟨sb, 0, none⟩)] cntF (JSeen sb w0) (by rw [hsb]; exact JSeen.ok) (by rw [hsb]; exact maps1_c w0 sb) (fun _ _ => by kernel_rfl) hj
  obtain ⟨N, hN⟩ : ∃ N, N = nodeA t.d A t.l.length c := ⟨_, rfl⟩
  have hNs : N.size = 22 := by rw [hN]; rfl
  simp only [nodeV, ← hN] at hG hNo hC hM ⊢
  have hinf := infN
  rw [← hNs] at hinf
  obtain ⟨g, hg⟩ : ∃ g, g = greatB t := ⟨_, rfl⟩
  simp only [← hg] at hG
  obtain ⟨k, hk⟩ : ∃ k, k = t.nodes.length := ⟨_, rfl⟩
  have hkz : t.size = k := by rw [hk, nodes_len]
  simp only [← hk] at hNo
  obtain ⟨cd, hcd⟩ : ∃ cd, cd = codeL t := ⟨_, rfl⟩
  simp only [← hcd] at hC
  have HG := Lib.hid hG
  have HNO := Lib.hid hNo
  have HC := Lib.hid hC
  have HM := Lib.hid hM
  have HIN := Lib.hid hinf
  have HT := Lib.hid ht
  have HN := Lib.hid hN
  have HD := Lib.hid hd
  have HS := Lib.hid hs
  have HK := Lib.hid hk
  have HKZ := Lib.hid hkz
  obtain ⟨W0, hW0⟩ : ∃ W0, W0 = (w.alloc (.cells N 34)).alloc (.cells #[.int .i64 by_] 3) := ⟨_, rfl⟩
  have hb0 : Below w.heap.size w W0 := by rw [hW0]; exact ((Below.refl _ w).alloc (Nat.le_refl _) _).alloc (by simp) _
  have hsz0 : w.heap.size + 2 ≤ W0.heap.size := by rw [hW0]; simp
  have hk0 : W0.heap[w.heap.size]? = some (.cells N 34) := by rw [hW0]; exact (heapOld _ _ _ (by simp)).trans (heap_alloc_new _ _)
  have hk1 : W0.heap[w.heap.size + 1]? = some (.cells #[.int .i64 by_] 3) := by
    rw [hW0]; have := heap_alloc_new (w.alloc (.cells N 34)) (.cells #[.int .i64 by_] 3); rwa [World.size_alloc] at this
  have HW0 := Lib.hid hW0
  have HK1 := Lib.hid hk1
  have hmono : ∀ wx, Below W0.heap.size W0 wx → Below w.heap.size w wx ∧ wx.heap[w.heap.size]? = some (.cells N 34) := fun wx hx =>
    ⟨hb0.trans (hx.mono (by omega)), (hx.block _ (by omega)).trans hk0⟩
  have HMO := Lib.hid hmono
  have hnlt : w.heap.size + 1 < W0.heap.size := by omega
  clear hG hNo hC hM hinf hNs hN hd hs hsh hg ht hk0 hk1 hmono hW0 hk hkz hcd
  go_enter Tryd.func6, Tryd.ntmps6
  have e12 := cut_from 12 mapsC
  obtain ⟨C, hC⟩ : ∃ C, C = fromRegion 12 mapsC := ⟨_, rfl⟩
  rw [← hC] at e12
  have HC12 := Lib.hid hC
  clear hC
  change Code.wp Tryd.prog mapsC _ _ _
  rw [← e12]
  clear e12
  conv => arg 2; whnf; arg 2; whnf; arg 2; whnf; arg 2; whnf; arg 2; whnf; arg 2; whnf; arg 2; whnf; arg 2; whnf; arg 2; whnf; arg 2; whnf
  go_wp2_with (fail)
  rw [← HW0.out]
  refine (awake_c W0 (tab_below HT.out hb0)).mono ?_
  rintro e w1 ⟨rfl, hb1⟩
  obtain ⟨hw1, hr1⟩ := HMO.out w1 hb1
  cases g
  case true =>
    as_aux_lemma =>
    go_wp2_with (first | (refine wpList_row rfl 34 _ rfl w.heap.size rfl 34 N (0, 0) _ hr1 undN rfl HIN.out ?_) | (go_at_call 9; refine (HG.out _ hw1).mono ?_; rintro e w2 ⟨rfl, hb2⟩))
    go_ret
    exact ⟨rfl, hw1.trans (hb2.mono hw1.size)⟩
  case false =>
  go_wp2_with (first | (refine wpList_row rfl 34 _ rfl w.heap.size rfl 34 N (0, 0) _ hr1 undN rfl HIN.out ?_) | fail)
  refine (HG.out _ hw1).mono ?_
  rintro e w2 ⟨rfl, hb2⟩
  have hb2 : Below W0.heap.size W0 w2 := hb1.trans (hb2.mono hb1.size)
  obtain ⟨hw2, hr2⟩ := HMO.out w2 hb2
  clear hw1 hr1 hb1
  go_wp2_with (first | (refine wpList_row rfl 34 _ rfl w.heap.size rfl 34 N (0, 0) _ hr2 undN rfl HIN.out ?_) | fail)
  refine (HNO.out _ hw2).mono ?_
  rintro e w3 ⟨A5, c5, rfl, hs5, hb3⟩
  have hb3 : Below W0.heap.size W0 w3 := hb2.trans (hb3.mono hb2.size)
  obtain ⟨hw3, hr3⟩ := HMO.out w3 hb3
  clear hw2 hr2 hb2
  go_wp2_with (first | (refine wpList_row rfl 34 _ rfl w.heap.size rfl 34 N (0, 0) _ hr3 undN rfl HIN.out ?_) | fail)
  refine (HC.out _ hw3).mono ?_
  rintro e w4 ⟨rfl, hb4'⟩
  have hb4 : Below W0.heap.size W0 w4 := hb3.trans (hb4'.mono hb3.size)
  have hs5' : SlAt w4 w4.heap.size A5 c5 t.nodes := (hs5.below hb4').more hb4'.size
  obtain ⟨W5, hW5⟩ : ∃ W5, W5 = w4.alloc (.cells #[.int .i64 0] 3) := ⟨_, rfl⟩
  have hb5 : Below w4.heap.size w4 W5 := by rw [hW5]; exact (Below.refl _ w4).alloc (Nat.le_refl _) _
  have hj5 : JSeen w4.heap.size w4 0 W5 := ⟨0, by unfold i64; omega, by rw [hW5]; exact heap_alloc_new _ _, fun _ => rfl, hb5⟩
  have hz5 : W5.heap.size = w4.heap.size + 1 := by rw [hW5]; simp
  obtain ⟨hw5, hr5⟩ := HMO.out W5 (hb4.trans (hb5.mono hb4.size))
  have HS5 := Lib.hid hs5'
  have HB4 := Lib.hid hb4
  have HJ5 := Lib.hid hj5
  have HZ5 := Lib.hid hz5
  have HW5 := Lib.hid hW5
  clear hw3 hr3 hb3 hb4' hs5 hs5' hb4 hj5 hb5 hz5 hW5
  go_upto_region 8 with (fail)
  (try simp only [Act.put, List.setIfInBounds_toArray, List.set_cons_zero, List.set_cons_succ])
  rw [← HW5.out]
  go_wp2_with (first | (refine wpList_row rfl 34 _ rfl w.heap.size rfl 34 N (0, 0) _ hr5 undN rfl HIN.out ?_) | fail)
  refine (HM.out _ hw5 _ _ HZ5.out HJ5.out).mono ?_
  rintro e w6 ⟨A6, c6, rfl, hd6, hs6, hj6⟩
  obtain ⟨vs, -, hseen, hvk, hb46⟩ := hj6
  have hvs : vs = (k : Int) := by rw [hvk (by omega), HKZ.out]
  subst hvs
  have hb6 : Below W0.heap.size W0 w6 := HB4.out.trans (hb46.mono HB4.out.size)
  have hs6' : SlAt w6 w6.heap.size A6 c6 (mapT cntF t).l := hs6.at_ (fun b o h => h.2)
  have hrn : (mapT cntF t).nodes.length = k := by rw [cnt_nodes, List.length_map, HK.out]
  have hrz : (mapT cntF t).size ≤ 1048576 := by rw [← nodes_len, hrn]; omega
  obtain ⟨M, hM⟩ : ∃ M, M = nodeA (mapT cntF t).d A6 (mapT cntF t).l.length c6 := ⟨_, rfl⟩
  have hMs : M.size = 22 := by rw [hM]; rfl
  have hMo : M.all (·.oneCell') = true := by rw [hM]; exact node_one _ _ _ _
  have hM20 : M[20]? = some (.int .i64 k) := by
    rw [hM, (nodeA_all (mapT cntF t).d A6 (mapT cntF t).l.length c6).2.2.2.2.2.2.2.2.2.2.2.2.2.2.2.2.2.2.2.2.1, cnt_rows t hz, HKZ.out]
  obtain ⟨W7, hW7⟩ : ∃ W7, W7 = w6.alloc (.cells M 34) := ⟨_, rfl⟩
  have hb67 : Below w6.heap.size w6 W7 := by rw [hW7]; exact (Below.refl _ w6).alloc (Nat.le_refl _) _
  have hz7 : W7.heap.size = w6.heap.size + 1 := by rw [hW7]; simp
  have hm7 : W7.heap[w6.heap.size]? = some (.cells M 34) := by rw [hW7]; exact heap_alloc_new _ _
  have hno2 := (nodes_c (mapT cntF t) W7 w6.heap.size A6 c6 hd6 (hs6'.below hb67) (by omega) hrz).mono (fun _ _ h => nodes_sl (by omega) h)
  rw [hrn, nodeV, ← hM] at hno2
  have hb7 : Below W0.heap.size W0 W7 := hb6.trans (hb67.mono hb6.size)
  have hs57 : SlAt W7 W7.heap.size A5 c5 t.nodes := (((HS5.out.below hb46).more hb46.size).below hb67).more hb67.size
  have hlt4 : w4.heap.size < w6.heap.size := (Array.getElem?_eq_some_iff.1 hseen).1
  have hse7 : W7.heap[w4.heap.size]? = some (.cells #[.int .i64 k] 3) := (hb67.block _ hlt4).trans hseen
  rw [nodeV, ← hM]
  have HW7 := Lib.hid hW7
  have HM7 := Lib.hid hm7
  have HNO2 := Lib.hid hno2
  have HB7 := Lib.hid hb7
  have HS57 := Lib.hid hs57
  have HSE := Lib.hid hse7
  have HMS := Lib.hid hMs
  have HMO' := Lib.hid hMo
  have HM20 := Lib.hid hM20
  have HZ7 := Lib.hid hz7
  clear hW7 hm7 hno2 hb7 hs57 hse7 hMs hMo hM20 hM hs6 hs6' hd6 hb6 hb46 hb67 hvk hseen hrn hrz hw5 hr5 HS5 HJ5 HM HB4 HW5 HZ5
  go_upto_region 9 with (first | (refine wpList_nodeVar rfl rfl w6.heap.size rfl ?_) | (refine wpList_storeFresh (w := w6) rfl _ _ _ rfl w6.heap.size rfl M rfl rfl (infS HMS.out) HMS.out.symm HMO'.out ?_) | fail)
  simp only [Act.put, List.setIfInBounds_toArray, List.set_cons_zero, List.set_cons_succ]
  rw [← HW7.out]
  go_wp2_with (first | (refine wpList_row rfl 34 _ rfl w6.heap.size rfl 34 M (0, 0) _ HM7.out undN rfl (infS HMS.out) ?_) | fail)
  refine HNO2.out.mono ?_
  rintro e w8 ⟨A9, c9, rfl, hs9, hb8'⟩
  have hb8 : Below W0.heap.size W0 w8 := HB7.out.trans (hb8'.mono HB7.out.size)
  obtain ⟨hw8, hr8⟩ := HMO.out w8 hb8
  have hz7 := HZ7.out
  have hse8 : w8.heap[w4.heap.size]? = some (.cells #[.int .i64 k] 3) := (hb8'.block _ (by omega)).trans HSE.out
  have hsc8 : w8.cell? ⟨w4.heap.size, 0, none⟩ = some (.int .i64 k) := by rw [Lib.cell_of_heap hse8]; rfl
  have hm8 : w8.cell? ⟨w6.heap.size, 20, none⟩ = some (.int .i64 k) := by rw [Lib.cell_of_heap ((hb8'.block _ (by omega)).trans HM7.out)]; exact HM20.out
  have hs58 : SlAt w8 w8.heap.size A5 c5 t.nodes := (HS57.out.below hb8').more hb8'.size
  rw [cnt_nodes] at hs9
  have HS58 := Lib.hid hs58
  have HS9 := Lib.hid hs9
  have HB8 := Lib.hid hb8
  clear hse8 hs58 hs9 hb8 hb8' HS57 HB7 hz7
  go_wp2_with (first | (refine wpList_row rfl 34 _ rfl w.heap.size rfl 34 N (0, 0) _ hr8 undN rfl HIN.out ?_) | fail)
  refine (HC.out _ hw8).mono ?_
  rintro e w9 ⟨rfl, hb9'⟩
  have hb9 : Below W0.heap.size W0 w9 := HB8.out.trans (hb9'.mono HB8.out.size)
  obtain ⟨hw9, hr9⟩ := HMO.out w9 hb9
  go_wp2
  refine Code.wp_mono (Q := RetSlot 4 (.bool true) w9) ?_ ?_
  · rintro e a w' ⟨rfl, hd', h2, hbz⟩
    refine bodyPost_ret (results_tmp rfl _ _ _) hd' ?_
    rw [h2]
    exact ⟨rfl, hw9.trans (hbz.mono hw9.size)⟩
  rw [HC12.out]
  exact maps12 _ _ _ _ _ _ _ _ _ _ _ _ _ _ _ _ _ _ _ _ _ _ _ _ _ _ _ _ _ _ _ _ _ _ _ _ _ _ _ _ _ _ _ _ _ _ _ _ _ _ _ _ _ _ _ _ _ _ _ _ _ _ _ _ _ _ _ _ _ _ _ _ _ _ _ _ _ _ _ _ _ _ _ _ _ _ _ _ _ _ _ _ _ _ _ _ _ _ _ _ _ _ _ _ _ _ _ _ _ _ _ _ _ _ _ _ _ _ _ _ _ _ _ _ _ _ _ _ _ _ _ _ _ _ _ _ _ _ _ _ _ _ _ _ _ _ _ _ _ _ _ _ w.heap.size t A c by_ k A5 c5 A9 c9 w9 (by rw [← HN.out]; exact hr9) ((hb9.block _ hnlt).trans HK1.out) HD.out (HS.out.below hw9) hz HK.out ((HS58.out.below hb9').more hb9'.size) ((HS9.out.below hb9').more hb9'.size)
end Go.Proofs.YtggpffipijoddaaDoor
