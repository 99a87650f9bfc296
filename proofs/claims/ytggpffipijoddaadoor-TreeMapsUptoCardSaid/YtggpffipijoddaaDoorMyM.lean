/- TreeMaps from its loop over the nodes on. -/
import Derived.Test.YtggpffipijoddaaDoorMxM
import Derived.Test.YtggpffipijoddaaDoorTcM
import Derived.Test.YtggpffipijoddaaDoorGtM
namespace Go.Proofs.YtggpffipijoddaaDoor
open Go.RowKit Go.Shelf

noncomputable def maps12C : Code := fromRegion 12 mapsC
theorem maps12_18 : fromRegion 18 maps12C = maps18C := by kernel_rfl
theorem cnt_dd {t : Tr} (h : t.size ≤ 1048576) : (mapT cntF t).d = { t.d with rows := ((t.nodes.length : Nat) : Int) } := by
  have h1 := cnt_rows t h
  rw [nodes_len]
  rw [cnt_eq] at h1 ⊢
  simp only [Tr.d] at h1 ⊢
  rw [h1]

theorem ret_panic {s : Nat} {v : Value} {w : World} {ch : List PanicEntry} {a : Act} {w' : World} (h : RetSlot s v w (.panic ch) a w') : False := by cases h.1
theorem range_below {W w : World} {b o : Nat} {cs : List Value} (hb : b < W.heap.size) (h : W.rangeAt b o cs) (hw : Below W.heap.size W w) : w.rangeAt b o cs := fun j v hv => (hw.cell (p := ⟨b, o + j, none⟩) hb).trans (h j v hv)

set_option maxRecDepth 100000 in
set_option maxHeartbeats 4000000 in
theorem maps12 (u0 u1 u4 u6 u7 u8 u10 u11 u12 u13 u14 u15 u16 u17 u18 u19 u20 u21 u22 u23 u24 u25 u26 u27 u28 u29 u30 u31 u32 u33 u34 u35 u36 u37 u38 u39 u40 u41 u42 u43 u44 u45 u46 u47 u48 u49 u50 u51 u52 u53 u54 u55 u56 u57 u58 u59 u60 u61 u62 u63 u64 u65 u66 u67 u68 u69 u70 u71 u72 u73 u74 u75 u76 u77 u78 u79 u80 u81 u82 u83 u84 u85 u86 u87 u88 u89 u90 u91 u92 u93 u94 u95 u96 u97 u98 u99 u100 u101 u102 u103 u104 u105 u106 u107 u108 u109 u110 u111 u112 u113 u114 u115 u116 u117 u118 u119 u120 u121 u122 u123 u124 u125 u126 u127 u128 u129 u130 u131 u132 u133 u134 u135 u136 u137 u138 u139 u140 u141 u142 u143 u144 u145 u146 u147 u148 u149 u150 u151 u152 u153 u154 u155 : Value) (nb : Nat) (t : Tr) (A : Option Addr) (c : Nat) (by_ : Int) (k : Nat) (A5 : Option Addr) (c5 : Nat) (A9 : Option Addr) (c9 : Nat) (w1 : World) (hn : w1.heap[nb]? = some (.cells (nodeA t.d A t.l.length c) 34)) (hby : w1.heap[nb + 1]? = some (.cells #[.int .i64 by_] 3))
    (hd : t.d.ok) (hs : SlAt w1 nb A c t.l) (hz : t.size ≤ 1048576) (hk : k = t.nodes.length) (hs5 : SlAt w1 w1.heap.size A5 c5 t.nodes) (hs9 : SlAt w1 w1.heap.size A9 c9 (t.nodes.map (mapT cntF))) :
    Code.wp Tryd.prog maps12C (RetSlot 4 (.bool true) w1) ⟨#[u0, u1, .pointer (some ⟨nb, 0, none⟩), .pointer (some ⟨nb + 1, 0, none⟩), u4, .slice A5 k c5, u6, u7, u8, .slice A9 k c9, u10, u11, u12, u13, u14, u15, u16, u17, u18, u19, u20, u21, u22, u23, u24, u25, u26, u27, u28, u29, u30, u31, u32, u33, u34, u35, u36, u37, u38, u39, u40, u41, u42, u43, u44, u45, u46, u47, u48, u49, u50, u51, u52, u53, u54, u55, u56, u57, u58, u59, u60, u61, u62, u63, u64, u65, u66, u67, u68, u69, u70, u71, u72, u73, u74, u75, u76, u77, u78, u79, u80, u81, u82, u83, u84, u85, u86, u87, u88, u89, u90, u91, u92, u93, u94, u95, u96, u97, u98, u99, u100, u101, u102, u103, u104, u105, u106, u107, u108, u109, u110, u111, u112, u113, u114, u115, u116, u117, u118, u119, u120, u121, u122, u123, u124, u125, u126, u127, u128, u129, u130, u131, u132, u133, u134, u135, u136, u137, u138, u139, u140, u141, u142, u143, u144, u145, u146, u147, u148, u149, u150, u151, u152, u153, u154, u155], []⟩ w1 := by
  dsimp only
  have e18 := cut_from 18 maps12C
  rw [maps12_18] at e18
  obtain ⟨C, hC⟩ : ∃ C, C = maps18C := ⟨_, rfl⟩
  rw [← hC] at e18
  have HC18 := Lib.hid hC
  clear hC
  rw [← e18]
  clear e18
  conv => arg 2; whnf; arg 2; whnf
  have hnlt : nb + 1 < w1.heap.size := (Array.getElem?_eq_some_iff.1 hby).1
  have hk5 : k ≤ c5 ∧ c5 ≤ 9223372036854775807 := ⟨by rw [hk]; exact hs5.1, hs5.2.1⟩
  have hk9 : k ≤ c9 ∧ c9 ≤ 9223372036854775807 := ⟨by have := hs9.1; rw [List.length_map] at this; rw [hk]; exact this, hs9.2.1⟩
  obtain ⟨hk51, hk52⟩ := hk5
  obtain ⟨hk91, hk92⟩ := hk9
  have hkm : k ≤ 1048576 := by rw [hk, nodes_len]; exact hz
  have HN := Lib.hid hn
  have HBY := Lib.hid hby
  have HD := Lib.hid hd
  have HS := Lib.hid hs
  have HK := Lib.hid hk
  have HS5 := Lib.hid hs5
  have HS9 := Lib.hid hs9
  clear hn hby hd hs hk hs5 hs9
  go_wp2
  go_loopw [10] (fun i wr => ∃ j : Nat, j ≤ k ∧ i = .int .i64 j ∧ Below w1.heap.size w1 wr) (fun i _ => k - (intOf i).toNat)
  case atStart => exact ⟨0, Nat.zero_le _, rfl, Below.refl _ _⟩
  case round =>
    obtain ⟨j, hj, rfl, hb1⟩ := hrel
    have HB1 := Lib.hid hb1
    have hzr : w1.heap.size ≤ wr.heap.size := hb1.size
    clear hb1
    by_cases hlt : j < k
    · as_aux_lemma =>
      have hjl : j < t.nodes.length := by rw [← HK.out]; exact hlt
      have hjl9 : j < (t.nodes.map (mapT cntF)).length := by rw [List.length_map]; exact hjl
      have hxz : t.nodes[j].size ≤ 1048576 := by have := node_size (t := t) t.nodes[j] (List.getElem_mem hjl); omega
      obtain ⟨b5, o5, hA5, hn5⟩ := (HS5.out.below HB1.out).at_ j hjl
      obtain ⟨b9, o9, hA9, hn9⟩ := (HS9.out.below HB1.out).at_ j hjl9
      subst hA5 hA9
      rw [List.getElem_map] at hn9
      obtain ⟨hg5, hd5, kA5, kc5, hc5, hl5⟩ := hn5.open_
      obtain ⟨hg9, -, kA9, kc9, hc9, hl9⟩ := hn9.open_
      rw [cnt_dd hxz, cnt_len] at hc9
      obtain ⟨cs9, e1, e2, e3⟩ := hc9.range (w' := wr) (fun p hp => rfl)
      obtain ⟨x, hx⟩ : ∃ x, x = wr.heap.size := ⟨_, rfl⟩
      obtain ⟨W, hW⟩ : ∃ W, W = wr.alloc (.cells cs9.toArray 34) := ⟨_, rfl⟩
      have hbW : Below wr.heap.size wr W := by rw [hW]; exact (Below.refl _ wr).alloc (Nat.le_refl _) _
      have hkx : W.heap[wr.heap.size]? = some (.cells cs9.toArray 34) := by rw [hW]; exact heap_alloc_new _ _
      have hcx : NodeCells W wr.heap.size 0 { t.nodes[j].d with rows := ((t.nodes[j].nodes.length : Nat) : Int) } kA9 t.nodes[j].l.length kc9 := fun i hi => by
        rw [Nat.zero_add, Lib.cell_of_heap hkx, e1]
      have hc5W : NodeCells W b5 (o5 + j * 22) t.nodes[j].d kA5 t.nodes[j].l.length kc5 := hc5.keep (fun p hp => hbW.cell (by omega))
      obtain ⟨cs5, f1, f2, f3⟩ := hc5W.range (w' := W) (fun p hp => rfl)
      have hnod := fun wy (hy : Below W.heap.size W wy) => (nodes_c t.nodes[j] wy w1.heap.size kA5 kc5 hd5 ((hl5.below (hbW.mono hzr)).below (hy.mono (by have := hbW.size; omega))) (by have := hbW.size; have := hy.size; omega) hxz).mono (R' := fun e w' => ∃ (A : Option Addr) (cap : Nat), e = .returned (.slice A t.nodes[j].nodes.length cap) ∧ Below wy.heap.size wy w') (fun _ _ h => by obtain ⟨A', cap', h1, -, h2⟩ := nodes_sl (by have := hbW.size; have := hy.size; omega) h; exact ⟨A', cap', h1, h2⟩)
      simp only [nodeV, ← f1] at hnod
      obtain ⟨x0, x1, x2, x3, x4, x5, x6, x7, x8, x9, x10, x11, x12, x13, x14, x15, x16, x17, x18, x19, x20, x21⟩ := hcx.all
      obtain ⟨l0, l1, l2, l3, l4, l5, l6, l7, l8, l9, l10, l11, l12, l13, l14, l15, l16, l17, l18, l19, l20, l21⟩ := hc5W.all
      simp only [Nat.zero_add] at x0 x1 x2 x3 x4 x5 x6 x7 x8 x9 x10 x11 x12 x13 x14 x15 x16 x17 x18 x19 x20 x21
      obtain ⟨xn, hxn⟩ : ∃ n, n = t.nodes[j].nodes.length := ⟨_, rfl⟩
      obtain ⟨xl, hxl⟩ : ∃ n, n = t.nodes[j].l.length := ⟨_, rfl⟩
      simp only [← hxn] at hnod
      rw [← hxn] at x20
      rw [← hxl] at x21 l21
      rw [← hx] at x0 x1 x2 x3 x4 x5 x6 x7 x8 x9 x10 x11 x12 x13 x14 x15 x16 x17 x18 x19 x20 x21
      have hxlt : x < W.heap.size := by rw [hx]; exact (Array.getElem?_eq_some_iff.1 hkx).1
      have hinf9 : (Tryd.prog.info? 34).map (·.size) = some cs9.length := by rw [e2]; exact infN
      have hinf5 : (Tryd.prog.info? 34).map (·.size) = some cs5.length := by rw [f2]; exact infN
      have hcz9 : cs9.toArray.size = 22 := by simp [e2]
      have hco9 : cs9.toArray.all (·.oneCell') = true := by rw [e1]; exact node_one _ _ _ _
      have hbz : Below w1.heap.size w1 W := HB1.out.trans (hbW.mono hzr)
      generalize t.nodes[j].d = dd at *
      obtain ⟨kind, v, name, a, q, rows⟩ := dd
      have r1 := fun w => eqV w v v
      rw [decide_eq_true rfl] at r1
      have r2 := fun w => eqA w a q a q
      rw [decide_eq_true ⟨rfl, rfl⟩] at r2
      dsimp only at x0 x1 x2 x3 x4 x5 x6 x7 x8 x9 x10 x11 x12 x13 x14 x15 x16 x17 x18 x19 x20 x21 l0 l1 l2 l3 l4 l5 l6 l7 l8 l9 l10 l11 l12 l13 l14 l15 l16 l17 l18 l19 l20 l21
      have HI9 := Lib.hid hinf9
      have HI5 := Lib.hid hinf5
      have HR9 := Lib.hid e3
      have HR5 := Lib.hid f3
      have HNOD := Lib.hid hnod
      have HW := Lib.hid hW
      have HCZ9 := Lib.hid hcz9
      have HCO9 := Lib.hid hco9
      have HBZ := Lib.hid hbz
      have HX := Lib.hid hx
      have hlt0 : (0 : Int) ≤ j := by omega
      have hlt2 : (j : Int) < k := by omega
      have HX0 := Lib.hid x0
      have HX1 := Lib.hid x1
      have HX2 := Lib.hid x2
      have HX3 := Lib.hid x3
      have HX4 := Lib.hid x4
      have HX5 := Lib.hid x5
      have HX6 := Lib.hid x6
      have HX7 := Lib.hid x7
      have HX8 := Lib.hid x8
      have HX9 := Lib.hid x9
      have HX10 := Lib.hid x10
      have HX11 := Lib.hid x11
      have HX12 := Lib.hid x12
      have HX13 := Lib.hid x13
      have HX14 := Lib.hid x14
      have HX15 := Lib.hid x15
      have HX16 := Lib.hid x16
      have HX17 := Lib.hid x17
      have HX18 := Lib.hid x18
      have HX19 := Lib.hid x19
      have HX20 := Lib.hid x20
      have HX21 := Lib.hid x21
      have HL0 := Lib.hid l0
      have HL1 := Lib.hid l1
      have HL2 := Lib.hid l2
      have HL3 := Lib.hid l3
      have HL4 := Lib.hid l4
      have HL5 := Lib.hid l5
      have HL6 := Lib.hid l6
      have HL7 := Lib.hid l7
      have HL8 := Lib.hid l8
      have HL9 := Lib.hid l9
      have HL10 := Lib.hid l10
      have HL11 := Lib.hid l11
      have HL12 := Lib.hid l12
      have HL13 := Lib.hid l13
      have HL14 := Lib.hid l14
      have HL15 := Lib.hid l15
      have HL16 := Lib.hid l16
      have HL17 := Lib.hid l17
      have HL18 := Lib.hid l18
      have HL19 := Lib.hid l19
      have HL20 := Lib.hid l20
      have HL21 := Lib.hid l21
      have hblt : b5 < W.heap.size := by have := hbW.size; omega
      clear hn5 hn9 hg5 hd5 hc5 hl5 hg9 hc9 hl9 e1 e2 e3 hbW hkx hcx hc5W f1 f2 f3 hnod hinf9 hinf5 hcz9 hco9 hbz hW hx hxn hxl hjl hjl9 hxz x0 x1 x2 x3 x4 x5 x6 x7 x8 x9 x10 x11 x12 x13 x14 x15 x16 x17 x18 x19 x20 x21 l0 l1 l2 l3 l4 l5 l6 l7 l8 l9 l10 l11 l12 l13 l14 l15 l16 l17 l18 l19 l20 l21
      go_upto_region 16 with (first | (refine wpList_mid rfl 34 _ rfl b9 (o9 + j * 22) rfl cs9 _ HR9.out undN rfl HI9.out ?_) | (refine wpList_nodeVar rfl rfl x HX.out.symm ?_) | (refine wpList_storeFresh (w := wr) rfl _ _ _ rfl x HX.out.symm cs9.toArray rfl rfl (infS HCZ9.out) HCZ9.out.symm HCO9.out ?_) | fail)
      simp only [Act.put, List.setIfInBounds_toArray, List.set_cons_zero, List.set_cons_succ]
      rw [← HW.out]
      refine wp_region_held_drew (S := fun w => Below W.heap.size W w) (by kernel_rfl) (Below.refl _ _).drew (fun hHeld => ?_)
      refine wpAnyH_take (i := 0) rfl (by as_aux_lemma => kernel_rfl) (by as_aux_lemma => kernel_rfl) (by as_aux_lemma => kernel_rfl) (fun _ _ _ h => (ret_panic (show RetSlot 4 (.bool true) w1 (.panic _) _ _ from h)).elim) (Or.inl ⟨by as_aux_lemma => kernel_rfl, by (intro w hSw; clear hSw; go_simp); try with_reducible rfl⟩) (by assumption) ?_
      (try simp only [List.getElem_toArray, List.getElem_cons_succ, List.getElem_cons_zero, Act.put, List.setIfInBounds_toArray, List.set_cons_zero, List.set_cons_succ])
      refine wpAnyH_take (i := 1) rfl (by as_aux_lemma => kernel_rfl) (by as_aux_lemma => kernel_rfl) (by as_aux_lemma => kernel_rfl) (fun _ _ _ h => (ret_panic (show RetSlot 4 (.bool true) w1 (.panic _) _ _ from h)).elim) (Or.inl ⟨by as_aux_lemma => kernel_rfl, by (intro w hSw; have q0 := (Below.cell hSw (p := ⟨x, 0, none⟩) hxlt).trans HX0.out; clear hSw; go_simp); try with_reducible rfl⟩) (by assumption) ?_
      (try simp only [List.getElem_toArray, List.getElem_cons_succ, List.getElem_cons_zero, Act.put, List.setIfInBounds_toArray, List.set_cons_zero, List.set_cons_succ])
      refine wpAnyH_take (i := 2) rfl (by as_aux_lemma => kernel_rfl) (by as_aux_lemma => kernel_rfl) (by as_aux_lemma => kernel_rfl) (fun _ _ _ h => (ret_panic (show RetSlot 4 (.bool true) w1 (.panic _) _ _ from h)).elim) (Or.inl ⟨by as_aux_lemma => kernel_rfl, by (intro w hSw; clear hSw; go_simp); try with_reducible rfl⟩) (by assumption) ?_
      (try simp only [List.getElem_toArray, List.getElem_cons_succ, List.getElem_cons_zero, Act.put, List.setIfInBounds_toArray, List.set_cons_zero, List.set_cons_succ])
      refine wpAnyH_take (i := 3) rfl (by as_aux_lemma => kernel_rfl) (by as_aux_lemma => kernel_rfl) (by as_aux_lemma => kernel_rfl) (fun _ _ _ h => (ret_panic (show RetSlot 4 (.bool true) w1 (.panic _) _ _ from h)).elim) (Or.inl ⟨by as_aux_lemma => kernel_rfl, by (intro w hSw; clear hSw; go_simp); try with_reducible rfl⟩) (by assumption) ?_
      (try simp only [List.getElem_toArray, List.getElem_cons_succ, List.getElem_cons_zero, Act.put, List.setIfInBounds_toArray, List.set_cons_zero, List.set_cons_succ])
      refine wpAnyH_take (i := 4) rfl (by as_aux_lemma => kernel_rfl) (by as_aux_lemma => kernel_rfl) (by as_aux_lemma => kernel_rfl) (fun _ _ _ h => (ret_panic (show RetSlot 4 (.bool true) w1 (.panic _) _ _ from h)).elim) (Or.inl ⟨by as_aux_lemma => kernel_rfl, by (intro w hSw; clear hSw; go_simp); try with_reducible rfl⟩) (by assumption) ?_
      (try simp only [List.getElem_toArray, List.getElem_cons_succ, List.getElem_cons_zero, Act.put, List.setIfInBounds_toArray, List.set_cons_zero, List.set_cons_succ])
      refine wpAnyH_take (i := 5) rfl (by as_aux_lemma => kernel_rfl) (by as_aux_lemma => kernel_rfl) (by as_aux_lemma => kernel_rfl) (fun _ _ _ h => (ret_panic (show RetSlot 4 (.bool true) w1 (.panic _) _ _ from h)).elim) (Or.inl ⟨by as_aux_lemma => kernel_rfl, by (intro w hSw; clear hSw; go_simp); try with_reducible rfl⟩) (by assumption) ?_
      (try simp only [List.getElem_toArray, List.getElem_cons_succ, List.getElem_cons_zero, Act.put, List.setIfInBounds_toArray, List.set_cons_zero, List.set_cons_succ])
      refine wpAnyH_take (i := 6) rfl (by as_aux_lemma => kernel_rfl) (by as_aux_lemma => kernel_rfl) (by as_aux_lemma => kernel_rfl) (fun _ _ _ h => (ret_panic (show RetSlot 4 (.bool true) w1 (.panic _) _ _ from h)).elim) (Or.inl ⟨by as_aux_lemma => kernel_rfl, by (intro w hSw; have q0 := (Below.cell hSw (p := ⟨b5, o5 + j * 22, none⟩) hblt).trans HL0.out; clear hSw; go_simp); try with_reducible rfl⟩) (by assumption) ?_
      (try simp only [List.getElem_toArray, List.getElem_cons_succ, List.getElem_cons_zero, Act.put, List.setIfInBounds_toArray, List.set_cons_zero, List.set_cons_succ])
      refine wpAnyH_take (i := 7) (v := .bool false) rfl (by as_aux_lemma => kernel_rfl) (by as_aux_lemma => kernel_rfl) (by as_aux_lemma => kernel_rfl) (fun _ _ _ h => (ret_panic (show RetSlot 4 (.bool true) w1 (.panic _) _ _ from h)).elim) (Or.inl ⟨by as_aux_lemma => kernel_rfl, by (intro w hSw; clear hSw; go_simp); try with_reducible rfl⟩) (by assumption) ?_
      (try simp only [List.getElem_toArray, List.getElem_cons_succ, List.getElem_cons_zero, Act.put, List.setIfInBounds_toArray, List.set_cons_zero, List.set_cons_succ])
      refine wpAnyH_take (i := 8) (v := .bool false) rfl (by as_aux_lemma => kernel_rfl) (by as_aux_lemma => kernel_rfl) (by as_aux_lemma => kernel_rfl) (fun _ _ _ h => (ret_panic (show RetSlot 4 (.bool true) w1 (.panic _) _ _ from h)).elim) (Or.inl ⟨by as_aux_lemma => kernel_rfl, by (intro w hSw; clear hSw; go_simp); try with_reducible rfl⟩) (by assumption) ?_
      (try simp only [List.getElem_toArray, List.getElem_cons_succ, List.getElem_cons_zero, Act.put, List.setIfInBounds_toArray, List.set_cons_zero, List.set_cons_succ])
      refine wpAnyH_take (i := 9) rfl (by as_aux_lemma => kernel_rfl) (by as_aux_lemma => kernel_rfl) (by as_aux_lemma => kernel_rfl) (fun _ _ _ h => (ret_panic (show RetSlot 4 (.bool true) w1 (.panic _) _ _ from h)).elim) (Or.inl ⟨by as_aux_lemma => kernel_rfl, by (intro w hSw; clear hSw; go_simp); try with_reducible rfl⟩) (by assumption) ?_
      (try simp only [List.getElem_toArray, List.getElem_cons_succ, List.getElem_cons_zero, Act.put, List.setIfInBounds_toArray, List.set_cons_zero, List.set_cons_succ])
      refine wpAnyH_take (i := 10) rfl (by as_aux_lemma => kernel_rfl) (by as_aux_lemma => kernel_rfl) (by as_aux_lemma => kernel_rfl) (fun _ _ _ h => (ret_panic (show RetSlot 4 (.bool true) w1 (.panic _) _ _ from h)).elim) (Or.inl ⟨by as_aux_lemma => kernel_rfl, by (intro w hSw; have q7 := (Below.cell hSw (p := ⟨x, 7, none⟩) hxlt).trans HX7.out; clear hSw; go_simp); try with_reducible rfl⟩) (by assumption) ?_
      (try simp only [List.getElem_toArray, List.getElem_cons_succ, List.getElem_cons_zero, Act.put, List.setIfInBounds_toArray, List.set_cons_zero, List.set_cons_succ])
      refine wpAnyH_take (i := 11) rfl (by as_aux_lemma => kernel_rfl) (by as_aux_lemma => kernel_rfl) (by as_aux_lemma => kernel_rfl) (fun _ _ _ h => (ret_panic (show RetSlot 4 (.bool true) w1 (.panic _) _ _ from h)).elim) (Or.inl ⟨by as_aux_lemma => kernel_rfl, by (intro w hSw; clear hSw; go_simp); try with_reducible rfl⟩) (by assumption) ?_
      (try simp only [List.getElem_toArray, List.getElem_cons_succ, List.getElem_cons_zero, Act.put, List.setIfInBounds_toArray, List.set_cons_zero, List.set_cons_succ])
      refine wpAnyH_take (i := 12) rfl (by as_aux_lemma => kernel_rfl) (by as_aux_lemma => kernel_rfl) (by as_aux_lemma => kernel_rfl) (fun _ _ _ h => (ret_panic (show RetSlot 4 (.bool true) w1 (.panic _) _ _ from h)).elim) (Or.inl ⟨by as_aux_lemma => kernel_rfl, by (intro w hSw; clear hSw; go_simp); try with_reducible rfl⟩) (by assumption) ?_
      (try simp only [List.getElem_toArray, List.getElem_cons_succ, List.getElem_cons_zero, Act.put, List.setIfInBounds_toArray, List.set_cons_zero, List.set_cons_succ])
      refine wpAnyH_take (i := 13) rfl (by as_aux_lemma => kernel_rfl) (by as_aux_lemma => kernel_rfl) (by as_aux_lemma => kernel_rfl) (fun _ _ _ h => (ret_panic (show RetSlot 4 (.bool true) w1 (.panic _) _ _ from h)).elim) (Or.inl ⟨by as_aux_lemma => kernel_rfl, by (intro w hSw; clear hSw; go_simp); try with_reducible rfl⟩) (by assumption) ?_
      (try simp only [List.getElem_toArray, List.getElem_cons_succ, List.getElem_cons_zero, Act.put, List.setIfInBounds_toArray, List.set_cons_zero, List.set_cons_succ])
      refine wpAnyH_take (i := 14) rfl (by as_aux_lemma => kernel_rfl) (by as_aux_lemma => kernel_rfl) (by as_aux_lemma => kernel_rfl) (fun _ _ _ h => (ret_panic (show RetSlot 4 (.bool true) w1 (.panic _) _ _ from h)).elim) (Or.inl ⟨by as_aux_lemma => kernel_rfl, by (intro w hSw; clear hSw; go_simp); try with_reducible rfl⟩) (by assumption) ?_
      (try simp only [List.getElem_toArray, List.getElem_cons_succ, List.getElem_cons_zero, Act.put, List.setIfInBounds_toArray, List.set_cons_zero, List.set_cons_succ])
      refine wpAnyH_take (i := 15) rfl (by as_aux_lemma => kernel_rfl) (by as_aux_lemma => kernel_rfl) (by as_aux_lemma => kernel_rfl) (fun _ _ _ h => (ret_panic (show RetSlot 4 (.bool true) w1 (.panic _) _ _ from h)).elim) (Or.inl ⟨by as_aux_lemma => kernel_rfl, by (intro w hSw; have q7 := (Below.cell hSw (p := ⟨b5, o5 + j * 22 + 7, none⟩) hblt).trans HL7.out; clear hSw; go_simp); try with_reducible rfl⟩) (by assumption) ?_
      (try simp only [List.getElem_toArray, List.getElem_cons_succ, List.getElem_cons_zero, Act.put, List.setIfInBounds_toArray, List.set_cons_zero, List.set_cons_succ])
      refine wpAnyH_take (i := 16) (v := .bool false) rfl (by as_aux_lemma => kernel_rfl) (by as_aux_lemma => kernel_rfl) (by as_aux_lemma => kernel_rfl) (fun _ _ _ h => (ret_panic (show RetSlot 4 (.bool true) w1 (.panic _) _ _ from h)).elim) (Or.inl ⟨by as_aux_lemma => kernel_rfl, by (intro w hSw; clear hSw; go_simp); try with_reducible rfl⟩) (by assumption) ?_
      (try simp only [List.getElem_toArray, List.getElem_cons_succ, List.getElem_cons_zero, Act.put, List.setIfInBounds_toArray, List.set_cons_zero, List.set_cons_succ])
      refine wpAnyH_take (i := 17) (v := .bool false) rfl (by as_aux_lemma => kernel_rfl) (by as_aux_lemma => kernel_rfl) (by as_aux_lemma => kernel_rfl) (fun _ _ _ h => (ret_panic (show RetSlot 4 (.bool true) w1 (.panic _) _ _ from h)).elim) (Or.inl ⟨by as_aux_lemma => kernel_rfl, by (intro w hSw; clear hSw; go_simp); try with_reducible rfl⟩) (by assumption) ?_
      (try simp only [List.getElem_toArray, List.getElem_cons_succ, List.getElem_cons_zero, Act.put, List.setIfInBounds_toArray, List.set_cons_zero, List.set_cons_succ])
      refine wpAnyH_take (i := 18) (v := .bool false) rfl (by as_aux_lemma => kernel_rfl) (by as_aux_lemma => kernel_rfl) (by as_aux_lemma => kernel_rfl) (fun _ _ _ h => (ret_panic (show RetSlot 4 (.bool true) w1 (.panic _) _ _ from h)).elim) (Or.inl ⟨by as_aux_lemma => kernel_rfl, by (intro w hSw; clear hSw; go_simp); try with_reducible rfl⟩) (by assumption) ?_
      (try simp only [List.getElem_toArray, List.getElem_cons_succ, List.getElem_cons_zero, Act.put, List.setIfInBounds_toArray, List.set_cons_zero, List.set_cons_succ])
      refine wpAnyH_take (i := 19) rfl (by as_aux_lemma => kernel_rfl) (by as_aux_lemma => kernel_rfl) (by as_aux_lemma => kernel_rfl) (fun _ _ _ h => (ret_panic (show RetSlot 4 (.bool true) w1 (.panic _) _ _ from h)).elim) (Or.inl ⟨by as_aux_lemma => kernel_rfl, by (intro w hSw; clear hSw; go_simp); try with_reducible rfl⟩) (by assumption) ?_
      (try simp only [List.getElem_toArray, List.getElem_cons_succ, List.getElem_cons_zero, Act.put, List.setIfInBounds_toArray, List.set_cons_zero, List.set_cons_succ])
      refine wpAnyH_take (i := 20) rfl (by as_aux_lemma => kernel_rfl) (by as_aux_lemma => kernel_rfl) (by as_aux_lemma => kernel_rfl) (fun _ _ _ h => (ret_panic (show RetSlot 4 (.bool true) w1 (.panic _) _ _ from h)).elim) (Or.inl ⟨by as_aux_lemma => kernel_rfl, by (intro w hSw; have q1 := (Below.cell hSw (p := ⟨x, 1, none⟩) hxlt).trans HX1.out; have q2 := (Below.cell hSw (p := ⟨x, 2, none⟩) hxlt).trans HX2.out; have q3 := (Below.cell hSw (p := ⟨x, 3, none⟩) hxlt).trans HX3.out; have q4 := (Below.cell hSw (p := ⟨x, 4, none⟩) hxlt).trans HX4.out; have q5 := (Below.cell hSw (p := ⟨x, 5, none⟩) hxlt).trans HX5.out; have q6 := (Below.cell hSw (p := ⟨x, 6, none⟩) hxlt).trans HX6.out; clear hSw; go_simp); try with_reducible rfl⟩) (by assumption) ?_
      (try simp only [List.getElem_toArray, List.getElem_cons_succ, List.getElem_cons_zero, Act.put, List.setIfInBounds_toArray, List.set_cons_zero, List.set_cons_succ])
      refine wpAnyH_take (i := 21) rfl (by as_aux_lemma => kernel_rfl) (by as_aux_lemma => kernel_rfl) (by as_aux_lemma => kernel_rfl) (fun _ _ _ h => (ret_panic (show RetSlot 4 (.bool true) w1 (.panic _) _ _ from h)).elim) (Or.inl ⟨by as_aux_lemma => kernel_rfl, by (intro w hSw; clear hSw; go_simp); try with_reducible rfl⟩) (by assumption) ?_
      (try simp only [List.getElem_toArray, List.getElem_cons_succ, List.getElem_cons_zero, Act.put, List.setIfInBounds_toArray, List.set_cons_zero, List.set_cons_succ])
      refine wpAnyH_take (i := 22) rfl (by as_aux_lemma => kernel_rfl) (by as_aux_lemma => kernel_rfl) (by as_aux_lemma => kernel_rfl) (fun _ _ _ h => (ret_panic (show RetSlot 4 (.bool true) w1 (.panic _) _ _ from h)).elim) (Or.inl ⟨by as_aux_lemma => kernel_rfl, by (intro w hSw; clear hSw; go_simp); try with_reducible rfl⟩) (by assumption) ?_
      (try simp only [List.getElem_toArray, List.getElem_cons_succ, List.getElem_cons_zero, Act.put, List.setIfInBounds_toArray, List.set_cons_zero, List.set_cons_succ])
      refine wpAnyH_take (i := 23) rfl (by as_aux_lemma => kernel_rfl) (by as_aux_lemma => kernel_rfl) (by as_aux_lemma => kernel_rfl) (fun _ _ _ h => (ret_panic (show RetSlot 4 (.bool true) w1 (.panic _) _ _ from h)).elim) (Or.inl ⟨by as_aux_lemma => kernel_rfl, by (intro w hSw; clear hSw; go_simp); try with_reducible rfl⟩) (by assumption) ?_
      (try simp only [List.getElem_toArray, List.getElem_cons_succ, List.getElem_cons_zero, Act.put, List.setIfInBounds_toArray, List.set_cons_zero, List.set_cons_succ])
      refine wpAnyH_take (i := 24) rfl (by as_aux_lemma => kernel_rfl) (by as_aux_lemma => kernel_rfl) (by as_aux_lemma => kernel_rfl) (fun _ _ _ h => (ret_panic (show RetSlot 4 (.bool true) w1 (.panic _) _ _ from h)).elim) (Or.inl ⟨by as_aux_lemma => kernel_rfl, by (intro w hSw; clear hSw; go_simp); try with_reducible rfl⟩) (by assumption) ?_
      (try simp only [List.getElem_toArray, List.getElem_cons_succ, List.getElem_cons_zero, Act.put, List.setIfInBounds_toArray, List.set_cons_zero, List.set_cons_succ])
      refine wpAnyH_take (i := 25) rfl (by as_aux_lemma => kernel_rfl) (by as_aux_lemma => kernel_rfl) (by as_aux_lemma => kernel_rfl) (fun _ _ _ h => (ret_panic (show RetSlot 4 (.bool true) w1 (.panic _) _ _ from h)).elim) (Or.inl ⟨by as_aux_lemma => kernel_rfl, by (intro w hSw; have q1 := (Below.cell hSw (p := ⟨b5, o5 + j * 22 + 1, none⟩) hblt).trans HL1.out; have q2 := (Below.cell hSw (p := ⟨b5, o5 + j * 22 + 2, none⟩) hblt).trans HL2.out; have q3 := (Below.cell hSw (p := ⟨b5, o5 + j * 22 + 3, none⟩) hblt).trans HL3.out; have q4 := (Below.cell hSw (p := ⟨b5, o5 + j * 22 + 4, none⟩) hblt).trans HL4.out; have q5 := (Below.cell hSw (p := ⟨b5, o5 + j * 22 + 5, none⟩) hblt).trans HL5.out; have q6 := (Below.cell hSw (p := ⟨b5, o5 + j * 22 + 6, none⟩) hblt).trans HL6.out; clear hSw; go_simp); try with_reducible rfl⟩) (by assumption) ?_
      (try simp only [List.getElem_toArray, List.getElem_cons_succ, List.getElem_cons_zero, Act.put, List.setIfInBounds_toArray, List.set_cons_zero, List.set_cons_succ])
      refine wpAnyH_take (i := 26) (v := .bool false) rfl (by as_aux_lemma => kernel_rfl) (by as_aux_lemma => kernel_rfl) (by as_aux_lemma => kernel_rfl) (fun _ _ _ h => (ret_panic (show RetSlot 4 (.bool true) w1 (.panic _) _ _ from h)).elim) (Or.inl ⟨by as_aux_lemma => kernel_rfl, by (intro w hSw; clear hSw; go_simp); try with_reducible rfl⟩) (by assumption) ?_
      (try simp only [List.getElem_toArray, List.getElem_cons_succ, List.getElem_cons_zero, Act.put, List.setIfInBounds_toArray, List.set_cons_zero, List.set_cons_succ])
      refine wpAnyH_take (i := 27) (v := .bool false) rfl (by as_aux_lemma => kernel_rfl) (by as_aux_lemma => kernel_rfl) (by as_aux_lemma => kernel_rfl) (fun _ _ _ h => (ret_panic (show RetSlot 4 (.bool true) w1 (.panic _) _ _ from h)).elim) (Or.inl ⟨by as_aux_lemma => kernel_rfl, by (intro w hSw; clear hSw; go_simp); try with_reducible rfl⟩) (by assumption) ?_
      (try simp only [List.getElem_toArray, List.getElem_cons_succ, List.getElem_cons_zero, Act.put, List.setIfInBounds_toArray, List.set_cons_zero, List.set_cons_succ])
      refine wpAnyH_take (i := 28) (v := .bool false) rfl (by as_aux_lemma => kernel_rfl) (by as_aux_lemma => kernel_rfl) (by as_aux_lemma => kernel_rfl) (fun _ _ _ h => (ret_panic (show RetSlot 4 (.bool true) w1 (.panic _) _ _ from h)).elim) (Or.inl ⟨by as_aux_lemma => kernel_rfl, by (intro w hSw; clear hSw; go_simp); try with_reducible rfl⟩) (by assumption) ?_
      (try simp only [List.getElem_toArray, List.getElem_cons_succ, List.getElem_cons_zero, Act.put, List.setIfInBounds_toArray, List.set_cons_zero, List.set_cons_succ])
      refine wpAnyH_take (i := 29) rfl (by as_aux_lemma => kernel_rfl) (by as_aux_lemma => kernel_rfl) (by as_aux_lemma => kernel_rfl) (fun _ _ _ h => (ret_panic (show RetSlot 4 (.bool true) w1 (.panic _) _ _ from h)).elim) (Or.inl ⟨by as_aux_lemma => kernel_rfl, by (intro w hSw; clear hSw; go_simp); try with_reducible rfl⟩) (by assumption) ?_
      (try simp only [List.getElem_toArray, List.getElem_cons_succ, List.getElem_cons_zero, Act.put, List.setIfInBounds_toArray, List.set_cons_zero, List.set_cons_succ])
      refine wpAnyH_take (i := 30) rfl (by as_aux_lemma => kernel_rfl) (by as_aux_lemma => kernel_rfl) (by as_aux_lemma => kernel_rfl) (fun _ _ _ h => (ret_panic (show RetSlot 4 (.bool true) w1 (.panic _) _ _ from h)).elim) (Or.inl ⟨by as_aux_lemma => kernel_rfl, by (intro w hSw; have q8 := (Below.cell hSw (p := ⟨x, 8, none⟩) hxlt).trans HX8.out; have q9 := (Below.cell hSw (p := ⟨x, 9, none⟩) hxlt).trans HX9.out; have q10 := (Below.cell hSw (p := ⟨x, 10, none⟩) hxlt).trans HX10.out; have q11 := (Below.cell hSw (p := ⟨x, 11, none⟩) hxlt).trans HX11.out; have q12 := (Below.cell hSw (p := ⟨x, 12, none⟩) hxlt).trans HX12.out; have q13 := (Below.cell hSw (p := ⟨x, 13, none⟩) hxlt).trans HX13.out; have q14 := (Below.cell hSw (p := ⟨x, 14, none⟩) hxlt).trans HX14.out; have q15 := (Below.cell hSw (p := ⟨x, 15, none⟩) hxlt).trans HX15.out; have q16 := (Below.cell hSw (p := ⟨x, 16, none⟩) hxlt).trans HX16.out; have q17 := (Below.cell hSw (p := ⟨x, 17, none⟩) hxlt).trans HX17.out; have q18 := (Below.cell hSw (p := ⟨x, 18, none⟩) hxlt).trans HX18.out; have q19 := (Below.cell hSw (p := ⟨x, 19, none⟩) hxlt).trans HX19.out; clear hSw; go_simp); try with_reducible rfl⟩) (by assumption) ?_
      (try simp only [List.getElem_toArray, List.getElem_cons_succ, List.getElem_cons_zero, Act.put, List.setIfInBounds_toArray, List.set_cons_zero, List.set_cons_succ])
      refine wpAnyH_take (i := 31) rfl (by as_aux_lemma => kernel_rfl) (by as_aux_lemma => kernel_rfl) (by as_aux_lemma => kernel_rfl) (fun _ _ _ h => (ret_panic (show RetSlot 4 (.bool true) w1 (.panic _) _ _ from h)).elim) (Or.inl ⟨by as_aux_lemma => kernel_rfl, by (intro w hSw; clear hSw; go_simp); try with_reducible rfl⟩) (by assumption) ?_
      (try simp only [List.getElem_toArray, List.getElem_cons_succ, List.getElem_cons_zero, Act.put, List.setIfInBounds_toArray, List.set_cons_zero, List.set_cons_succ])
      refine wpAnyH_take (i := 32) rfl (by as_aux_lemma => kernel_rfl) (by as_aux_lemma => kernel_rfl) (by as_aux_lemma => kernel_rfl) (fun _ _ _ h => (ret_panic (show RetSlot 4 (.bool true) w1 (.panic _) _ _ from h)).elim) (Or.inl ⟨by as_aux_lemma => kernel_rfl, by (intro w hSw; clear hSw; go_simp); try with_reducible rfl⟩) (by assumption) ?_
      (try simp only [List.getElem_toArray, List.getElem_cons_succ, List.getElem_cons_zero, Act.put, List.setIfInBounds_toArray, List.set_cons_zero, List.set_cons_succ])
      refine wpAnyH_take (i := 33) rfl (by as_aux_lemma => kernel_rfl) (by as_aux_lemma => kernel_rfl) (by as_aux_lemma => kernel_rfl) (fun _ _ _ h => (ret_panic (show RetSlot 4 (.bool true) w1 (.panic _) _ _ from h)).elim) (Or.inl ⟨by as_aux_lemma => kernel_rfl, by (intro w hSw; clear hSw; go_simp); try with_reducible rfl⟩) (by assumption) ?_
      (try simp only [List.getElem_toArray, List.getElem_cons_succ, List.getElem_cons_zero, Act.put, List.setIfInBounds_toArray, List.set_cons_zero, List.set_cons_succ])
      refine wpAnyH_take (i := 34) rfl (by as_aux_lemma => kernel_rfl) (by as_aux_lemma => kernel_rfl) (by as_aux_lemma => kernel_rfl) (fun _ _ _ h => (ret_panic (show RetSlot 4 (.bool true) w1 (.panic _) _ _ from h)).elim) (Or.inl ⟨by as_aux_lemma => kernel_rfl, by (intro w hSw; clear hSw; go_simp); try with_reducible rfl⟩) (by assumption) ?_
      (try simp only [List.getElem_toArray, List.getElem_cons_succ, List.getElem_cons_zero, Act.put, List.setIfInBounds_toArray, List.set_cons_zero, List.set_cons_succ])
      refine wpAnyH_take (i := 35) rfl (by as_aux_lemma => kernel_rfl) (by as_aux_lemma => kernel_rfl) (by as_aux_lemma => kernel_rfl) (fun _ _ _ h => (ret_panic (show RetSlot 4 (.bool true) w1 (.panic _) _ _ from h)).elim) (Or.inl ⟨by as_aux_lemma => kernel_rfl, by (intro w hSw; have q8 := (Below.cell hSw (p := ⟨b5, o5 + j * 22 + 8, none⟩) hblt).trans HL8.out; have q9 := (Below.cell hSw (p := ⟨b5, o5 + j * 22 + 9, none⟩) hblt).trans HL9.out; have q10 := (Below.cell hSw (p := ⟨b5, o5 + j * 22 + 10, none⟩) hblt).trans HL10.out; have q11 := (Below.cell hSw (p := ⟨b5, o5 + j * 22 + 11, none⟩) hblt).trans HL11.out; have q12 := (Below.cell hSw (p := ⟨b5, o5 + j * 22 + 12, none⟩) hblt).trans HL12.out; have q13 := (Below.cell hSw (p := ⟨b5, o5 + j * 22 + 13, none⟩) hblt).trans HL13.out; have q14 := (Below.cell hSw (p := ⟨b5, o5 + j * 22 + 14, none⟩) hblt).trans HL14.out; have q15 := (Below.cell hSw (p := ⟨b5, o5 + j * 22 + 15, none⟩) hblt).trans HL15.out; have q16 := (Below.cell hSw (p := ⟨b5, o5 + j * 22 + 16, none⟩) hblt).trans HL16.out; have q17 := (Below.cell hSw (p := ⟨b5, o5 + j * 22 + 17, none⟩) hblt).trans HL17.out; have q18 := (Below.cell hSw (p := ⟨b5, o5 + j * 22 + 18, none⟩) hblt).trans HL18.out; have q19 := (Below.cell hSw (p := ⟨b5, o5 + j * 22 + 19, none⟩) hblt).trans HL19.out; clear hSw; go_simp); try with_reducible rfl⟩) (by assumption) ?_
      (try simp only [List.getElem_toArray, List.getElem_cons_succ, List.getElem_cons_zero, Act.put, List.setIfInBounds_toArray, List.set_cons_zero, List.set_cons_succ])
      refine wpAnyH_take (i := 36) (v := .bool false) rfl (by as_aux_lemma => kernel_rfl) (by as_aux_lemma => kernel_rfl) (by as_aux_lemma => kernel_rfl) (fun _ _ _ h => (ret_panic (show RetSlot 4 (.bool true) w1 (.panic _) _ _ from h)).elim) (Or.inl ⟨by as_aux_lemma => kernel_rfl, by (intro w hSw; clear hSw; go_simp); try with_reducible rfl⟩) (by assumption) ?_
      (try simp only [List.getElem_toArray, List.getElem_cons_succ, List.getElem_cons_zero, Act.put, List.setIfInBounds_toArray, List.set_cons_zero, List.set_cons_succ])
      refine wpAnyH_take (i := 37) (v := .bool false) rfl (by as_aux_lemma => kernel_rfl) (by as_aux_lemma => kernel_rfl) (by as_aux_lemma => kernel_rfl) (fun _ _ _ h => (ret_panic (show RetSlot 4 (.bool true) w1 (.panic _) _ _ from h)).elim) (Or.inl ⟨by as_aux_lemma => kernel_rfl, by (intro w hSw; clear hSw; go_simp); try with_reducible rfl⟩) (by assumption) ?_
      (try simp only [List.getElem_toArray, List.getElem_cons_succ, List.getElem_cons_zero, Act.put, List.setIfInBounds_toArray, List.set_cons_zero, List.set_cons_succ])
      refine wpAnyH_take (i := 38) (v := .bool false) rfl (by as_aux_lemma => kernel_rfl) (by as_aux_lemma => kernel_rfl) (by as_aux_lemma => kernel_rfl) (fun _ _ _ h => (ret_panic (show RetSlot 4 (.bool true) w1 (.panic _) _ _ from h)).elim) (Or.inl ⟨by as_aux_lemma => kernel_rfl, by (intro w hSw; clear hSw; go_simp); try with_reducible rfl⟩) (by assumption) ?_
      (try simp only [List.getElem_toArray, List.getElem_cons_succ, List.getElem_cons_zero, Act.put, List.setIfInBounds_toArray, List.set_cons_zero, List.set_cons_succ])
      refine wpAnyH_take (i := 39) rfl (by as_aux_lemma => kernel_rfl) (by as_aux_lemma => kernel_rfl) (by as_aux_lemma => kernel_rfl) (fun _ _ _ h => (ret_panic (show RetSlot 4 (.bool true) w1 (.panic _) _ _ from h)).elim) (Or.inl ⟨by as_aux_lemma => kernel_rfl, by (intro w hSw; clear hSw; go_simp); try with_reducible rfl⟩) (by assumption) ?_
      (try simp only [List.getElem_toArray, List.getElem_cons_succ, List.getElem_cons_zero, Act.put, List.setIfInBounds_toArray, List.set_cons_zero, List.set_cons_succ])
      refine wpAnyH_take (i := 40) rfl (by as_aux_lemma => kernel_rfl) (by as_aux_lemma => kernel_rfl) (by as_aux_lemma => kernel_rfl) (fun _ _ _ h => (ret_panic (show RetSlot 4 (.bool true) w1 (.panic _) _ _ from h)).elim) (Or.inl ⟨by as_aux_lemma => kernel_rfl, by (intro w hSw; have q21 := (Below.cell hSw (p := ⟨x, 21, none⟩) hxlt).trans HX21.out; clear hSw; go_simp); try with_reducible rfl⟩) (by assumption) ?_
      (try simp only [List.getElem_toArray, List.getElem_cons_succ, List.getElem_cons_zero, Act.put, List.setIfInBounds_toArray, List.set_cons_zero, List.set_cons_succ])
      refine wpAnyH_take (i := 41) rfl (by as_aux_lemma => kernel_rfl) (by as_aux_lemma => kernel_rfl) (by as_aux_lemma => kernel_rfl) (fun _ _ _ h => (ret_panic (show RetSlot 4 (.bool true) w1 (.panic _) _ _ from h)).elim) (Or.inl ⟨by as_aux_lemma => kernel_rfl, by (intro w hSw; clear hSw; go_simp); try with_reducible rfl⟩) (by assumption) ?_
      (try simp only [List.getElem_toArray, List.getElem_cons_succ, List.getElem_cons_zero, Act.put, List.setIfInBounds_toArray, List.set_cons_zero, List.set_cons_succ])
      refine wpAnyH_take (i := 42) rfl (by as_aux_lemma => kernel_rfl) (by as_aux_lemma => kernel_rfl) (by as_aux_lemma => kernel_rfl) (fun _ _ _ h => (ret_panic (show RetSlot 4 (.bool true) w1 (.panic _) _ _ from h)).elim) (Or.inl ⟨by as_aux_lemma => kernel_rfl, by (intro w hSw; clear hSw; go_simp); try with_reducible rfl⟩) (by assumption) ?_
      (try simp only [List.getElem_toArray, List.getElem_cons_succ, List.getElem_cons_zero, Act.put, List.setIfInBounds_toArray, List.set_cons_zero, List.set_cons_succ])
      refine wpAnyH_take (i := 43) rfl (by as_aux_lemma => kernel_rfl) (by as_aux_lemma => kernel_rfl) (by as_aux_lemma => kernel_rfl) (fun _ _ _ h => (ret_panic (show RetSlot 4 (.bool true) w1 (.panic _) _ _ from h)).elim) (Or.inl ⟨by as_aux_lemma => kernel_rfl, by (intro w hSw; clear hSw; go_simp); try with_reducible rfl⟩) (by assumption) ?_
      (try simp only [List.getElem_toArray, List.getElem_cons_succ, List.getElem_cons_zero, Act.put, List.setIfInBounds_toArray, List.set_cons_zero, List.set_cons_succ])
      refine wpAnyH_take (i := 44) rfl (by as_aux_lemma => kernel_rfl) (by as_aux_lemma => kernel_rfl) (by as_aux_lemma => kernel_rfl) (fun _ _ _ h => (ret_panic (show RetSlot 4 (.bool true) w1 (.panic _) _ _ from h)).elim) (Or.inl ⟨by as_aux_lemma => kernel_rfl, by (intro w hSw; clear hSw; go_simp); try with_reducible rfl⟩) (by assumption) ?_
      (try simp only [List.getElem_toArray, List.getElem_cons_succ, List.getElem_cons_zero, Act.put, List.setIfInBounds_toArray, List.set_cons_zero, List.set_cons_succ])
      refine wpAnyH_take (i := 45) rfl (by as_aux_lemma => kernel_rfl) (by as_aux_lemma => kernel_rfl) (by as_aux_lemma => kernel_rfl) (fun _ _ _ h => (ret_panic (show RetSlot 4 (.bool true) w1 (.panic _) _ _ from h)).elim) (Or.inl ⟨by as_aux_lemma => kernel_rfl, by (intro w hSw; clear hSw; go_simp); try with_reducible rfl⟩) (by assumption) ?_
      (try simp only [List.getElem_toArray, List.getElem_cons_succ, List.getElem_cons_zero, Act.put, List.setIfInBounds_toArray, List.set_cons_zero, List.set_cons_succ])
      refine wpAnyH_take (i := 46) rfl (by as_aux_lemma => kernel_rfl) (by as_aux_lemma => kernel_rfl) (by as_aux_lemma => kernel_rfl) (fun _ _ _ h => (ret_panic (show RetSlot 4 (.bool true) w1 (.panic _) _ _ from h)).elim) (Or.inl ⟨by as_aux_lemma => kernel_rfl, by (intro w hSw; have q21 := (Below.cell hSw (p := ⟨b5, o5 + j * 22 + 21, none⟩) hblt).trans HL21.out; clear hSw; go_simp); try with_reducible rfl⟩) (by assumption) ?_
      (try simp only [List.getElem_toArray, List.getElem_cons_succ, List.getElem_cons_zero, Act.put, List.setIfInBounds_toArray, List.set_cons_zero, List.set_cons_succ])
      refine wpAnyH_take (i := 47) rfl (by as_aux_lemma => kernel_rfl) (by as_aux_lemma => kernel_rfl) (by as_aux_lemma => kernel_rfl) (fun _ _ _ h => (ret_panic (show RetSlot 4 (.bool true) w1 (.panic _) _ _ from h)).elim) (Or.inl ⟨by as_aux_lemma => kernel_rfl, by (intro w hSw; clear hSw; go_simp); try with_reducible rfl⟩) (by assumption) ?_
      (try simp only [List.getElem_toArray, List.getElem_cons_succ, List.getElem_cons_zero, Act.put, List.setIfInBounds_toArray, List.set_cons_zero, List.set_cons_succ])
      refine wpAnyH_take (i := 48) (v := .bool false) rfl (by as_aux_lemma => kernel_rfl) (by as_aux_lemma => kernel_rfl) (by as_aux_lemma => kernel_rfl) (fun _ _ _ h => (ret_panic (show RetSlot 4 (.bool true) w1 (.panic _) _ _ from h)).elim) (Or.inl ⟨by as_aux_lemma => kernel_rfl, by (intro w hSw; clear hSw; go_simp); try with_reducible rfl⟩) (by assumption) ?_
      (try simp only [List.getElem_toArray, List.getElem_cons_succ, List.getElem_cons_zero, Act.put, List.setIfInBounds_toArray, List.set_cons_zero, List.set_cons_succ])
      refine wpAnyH_take (i := 49) (v := .bool false) rfl (by as_aux_lemma => kernel_rfl) (by as_aux_lemma => kernel_rfl) (by as_aux_lemma => kernel_rfl) (fun _ _ _ h => (ret_panic (show RetSlot 4 (.bool true) w1 (.panic _) _ _ from h)).elim) (Or.inl ⟨by as_aux_lemma => kernel_rfl, by (intro w hSw; clear hSw; go_simp); try with_reducible rfl⟩) (by assumption) ?_
      (try simp only [List.getElem_toArray, List.getElem_cons_succ, List.getElem_cons_zero, Act.put, List.setIfInBounds_toArray, List.set_cons_zero, List.set_cons_succ])
      refine wpAnyH_take (i := 50) (v := .bool false) rfl (by as_aux_lemma => kernel_rfl) (by as_aux_lemma => kernel_rfl) (by as_aux_lemma => kernel_rfl) (fun _ _ _ h => (ret_panic (show RetSlot 4 (.bool true) w1 (.panic _) _ _ from h)).elim) (Or.inl ⟨by as_aux_lemma => kernel_rfl, by (intro w hSw; clear hSw; go_simp); try with_reducible rfl⟩) (by assumption) ?_
      (try simp only [List.getElem_toArray, List.getElem_cons_succ, List.getElem_cons_zero, Act.put, List.setIfInBounds_toArray, List.set_cons_zero, List.set_cons_succ])
      refine wpAnyH_take (i := 51) rfl (by as_aux_lemma => kernel_rfl) (by as_aux_lemma => kernel_rfl) (by as_aux_lemma => kernel_rfl) (fun _ _ _ h => (ret_panic (show RetSlot 4 (.bool true) w1 (.panic _) _ _ from h)).elim) (Or.inl ⟨by as_aux_lemma => kernel_rfl, by (intro w hSw; clear hSw; go_simp); try with_reducible rfl⟩) (by assumption) ?_
      (try simp only [List.getElem_toArray, List.getElem_cons_succ, List.getElem_cons_zero, Act.put, List.setIfInBounds_toArray, List.set_cons_zero, List.set_cons_succ])
      refine wpAnyH_take (i := 52) rfl (by as_aux_lemma => kernel_rfl) (by as_aux_lemma => kernel_rfl) (by as_aux_lemma => kernel_rfl) (fun _ _ _ h => (ret_panic (show RetSlot 4 (.bool true) w1 (.panic _) _ _ from h)).elim) (Or.inl ⟨by as_aux_lemma => kernel_rfl, by (intro w hSw; have q20 := (Below.cell hSw (p := ⟨x, 20, none⟩) hxlt).trans HX20.out; clear hSw; go_simp); try with_reducible rfl⟩) (by assumption) ?_
      (try simp only [List.getElem_toArray, List.getElem_cons_succ, List.getElem_cons_zero, Act.put, List.setIfInBounds_toArray, List.set_cons_zero, List.set_cons_succ])
      refine wpAnyH_take (i := 53) rfl (by as_aux_lemma => kernel_rfl) (by as_aux_lemma => kernel_rfl) (by as_aux_lemma => kernel_rfl) (fun _ _ _ h => (ret_panic (show RetSlot 4 (.bool true) w1 (.panic _) _ _ from h)).elim) (Or.inl ⟨by as_aux_lemma => kernel_rfl, by (intro w hSw; clear hSw; go_simp); try with_reducible rfl⟩) (by assumption) ?_
      (try simp only [List.getElem_toArray, List.getElem_cons_succ, List.getElem_cons_zero, Act.put, List.setIfInBounds_toArray, List.set_cons_zero, List.set_cons_succ])
      refine wpAnyH_take (i := 54) rfl (by as_aux_lemma => kernel_rfl) (by as_aux_lemma => kernel_rfl) (by as_aux_lemma => kernel_rfl) (fun _ _ _ h => (ret_panic (show RetSlot 4 (.bool true) w1 (.panic _) _ _ from h)).elim) (Or.inl ⟨by as_aux_lemma => kernel_rfl, by (intro w hSw; clear hSw; go_simp); try with_reducible rfl⟩) (by assumption) ?_
      (try simp only [List.getElem_toArray, List.getElem_cons_succ, List.getElem_cons_zero, Act.put, List.setIfInBounds_toArray, List.set_cons_zero, List.set_cons_succ])
      refine wpAnyH_take (i := 55) rfl (by as_aux_lemma => kernel_rfl) (by as_aux_lemma => kernel_rfl) (by as_aux_lemma => kernel_rfl) (fun _ _ _ h => (ret_panic (show RetSlot 4 (.bool true) w1 (.panic _) _ _ from h)).elim) (Or.inl ⟨by as_aux_lemma => kernel_rfl, by (intro w hSw; clear hSw; go_simp); try with_reducible rfl⟩) (by assumption) ?_
      (try simp only [List.getElem_toArray, List.getElem_cons_succ, List.getElem_cons_zero, Act.put, List.setIfInBounds_toArray, List.set_cons_zero, List.set_cons_succ])
      refine wpAnyH_take (i := 56) (v := .agg cs5.toArray) rfl (by kernel_rfl) (by kernel_rfl) (by kernel_rfl) (fun _ _ _ h => (ret_panic (show RetSlot 4 (.bool true) w1 (.panic _) _ _ from h)).elim) (yieldsIf_load_mid (by kernel_rfl) 34 _ rfl b5 (o5 + j * 22) rfl cs5 _ (fun w h => range_below hblt HR5.out h) undN rfl HI5.out) (by assumption) ?_
      (try simp only [List.getElem_toArray, List.getElem_cons_succ, List.getElem_cons_zero, Act.put, List.setIfInBounds_toArray, List.set_cons_zero, List.set_cons_succ])
      refine wpAnyH_ready (rs := [57]) (by kernel_rfl) (by simp) ?_
      refine AllReadyH.cons rfl (fun K hK => ?_) AllReadyH.nil
      go_simp
      refine (HNOD.out _ hHeld).mono ?_
      rintro e w4 ⟨A4, c4, rfl, hb4⟩
      try go_simp
      have hH4 : Below W.heap.size W w4 := Below.trans hHeld (hb4.mono (Below.size hHeld))
      refine hK.out _ _ hH4 (fun hHeld4 => ?_)
      clear hK K hHeld hH4
      try (try simp only [List.getElem_toArray, List.getElem_cons_succ, List.getElem_cons_zero, Act.put, List.setIfInBounds_toArray, List.set_cons_zero, List.set_cons_succ])
      refine wpAnyH_take (i := 58) rfl (by as_aux_lemma => kernel_rfl) (by as_aux_lemma => kernel_rfl) (by as_aux_lemma => kernel_rfl) (fun _ _ _ h => (ret_panic (show RetSlot 4 (.bool true) w1 (.panic _) _ _ from h)).elim) (Or.inl ⟨by as_aux_lemma => kernel_rfl, by (intro w hSw; clear hSw; go_simp); try with_reducible rfl⟩) (by assumption) ?_
      (try simp only [List.getElem_toArray, List.getElem_cons_succ, List.getElem_cons_zero, Act.put, List.setIfInBounds_toArray, List.set_cons_zero, List.set_cons_succ])
      refine wpAnyH_take (i := 59) (v := .bool false) rfl (by as_aux_lemma => kernel_rfl) (by as_aux_lemma => kernel_rfl) (by as_aux_lemma => kernel_rfl) (fun _ _ _ h => (ret_panic (show RetSlot 4 (.bool true) w1 (.panic _) _ _ from h)).elim) (Or.inl ⟨by as_aux_lemma => kernel_rfl, by (intro w hSw; clear hSw; go_simp); try with_reducible rfl⟩) (by assumption) ?_
      (try simp only [List.getElem_toArray, List.getElem_cons_succ, List.getElem_cons_zero, Act.put, List.setIfInBounds_toArray, List.set_cons_zero, List.set_cons_succ])
      refine wpAnyH_take (i := 60) (v := .bool false) rfl (by as_aux_lemma => kernel_rfl) (by as_aux_lemma => kernel_rfl) (by as_aux_lemma => kernel_rfl) (fun _ _ _ h => (ret_panic (show RetSlot 4 (.bool true) w1 (.panic _) _ _ from h)).elim) (Or.inl ⟨by as_aux_lemma => kernel_rfl, by (intro w hSw; clear hSw; go_simp); try with_reducible rfl⟩) (by assumption) ?_
      (try simp only [List.getElem_toArray, List.getElem_cons_succ, List.getElem_cons_zero, Act.put, List.setIfInBounds_toArray, List.set_cons_zero, List.set_cons_succ])
      refine wpAnyH_done (by kernel_rfl) ?_ _
      go_wp2
      go_roundw
      case rel => exact ⟨j + 1, by omega, by go_num, HBZ.out.trans (hHeld4.mono HBZ.out.size)⟩
      case measure => simp [intOf]; omega
    · as_aux_lemma =>
      have hge : ¬ (j : Int) < k := by omega
      go_wp2
      refine Code.wp_mono (Q := RetSlot 4 (.bool true) wr) ?_ ?_
      · intro e a w' h
        exact h.lift HB1.out
      rw [HC18.out]
      exact maps18 _ _ _ _ _ _ _ _ _ _ _ _ _ _ _ _ _ _ _ _ _ _ _ _ _ _ _ _ _ _ _ _ _ _ _ _ _ _ _ _ _ _ _ _ _ _ _ _ _ _ _ _ _ _ _ _ _ _ _ _ _ _ _ _ _ _ _ _ _ _ _ _ _ _ _ _ _ _ _ _ _ _ _ _ _ _ _ _ _ _ _ _ _ _ _ _ _ _ _ _ _ _ _ _ _ _ _ _ _ _ _ _ _ _ _ _ _ _ _ _ _ _ _ _ _ _ _ _ _ _ _ _ _ _ _ _ _ _ _ _ _ _ _ _ _ _ _ _ _ _ _ _ _ _ nb t A c by_ wr ((HB1.out.block nb (by omega)).trans HN.out) ((HB1.out.block _ hnlt).trans HBY.out) HD.out (HS.out.below (HB1.out.mono (by omega))) hz
end Go.Proofs.YtggpffipijoddaaDoor
