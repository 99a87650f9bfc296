/- TreeMaps from its second Map on. -/
import Derived.Test.YtggpffipijoddaaDoorCu
import Derived.Test.YtggpffipijoddaaDoorMcMq
import Derived.Test.YtggpffipijoddaaDoorSrSq
import Derived.Test.YtggpffipijoddaaDoorClNw
import Derived.Test.YtggpffipijoddaaDoorQbM
namespace Go.Proofs.YtggpffipijoddaaDoor
open Go.RowKit Go.Shelf

noncomputable def mapsC : Code := Tryd.f6.body.getD .skip
noncomputable def maps18C : Code := fromRegion 18 mapsC
/-- the node that is being looked at. -/
def QRel (nb qb : Nat) (by_ : Int) (t : Tr) (W : World) (gk : Nat) (wr : World) : Prop := ∃ (y : Tr) (A : Option Addr) (c : Nat), gk = y.size ∧ wr.heap[qb]? = some (.cells (nodeA y.d A y.l.length c) 34) ∧ y.d.ok ∧ SlAt wr nb A c y.l ∧ mapT (pickF by_) t = mapT (pickF by_) y ∧ y.size ≤ 1048576 ∧ Below qb W wr

theorem mem_size {x : Tr} : ∀ {l : List Tr}, x ∈ l → x.size ≤ Tr.sizes l
  | [], h => by cases h
  | a :: l, h => by
    simp only [Tr.sizes]
    rcases List.mem_cons.1 h with rfl | h
    · omega
    · have := mem_size h; omega
theorem keep_range {w w' : World} {b : Nat} {l : List Value} (hb : b < w.heap.size) (h : w.rangeAt b 0 l) (hw : Below w.heap.size w w') : w'.rangeAt b 0 l := fun j v hv => (hw.cell (p := ⟨b, 0 + j, none⟩) hb).trans (h j v hv)
theorem keep_ranges {X w w' : World} {a b c : Nat} {l m k : List Value} (ha : a < X.heap.size) (hb : b < X.heap.size) (hc : c < X.heap.size) (h : w.rangeAt a 0 l ∧ w.rangeAt b 0 m ∧ w.rangeAt c 0 k ∧ Below X.heap.size X w) (hw : Below w.heap.size w w') : w'.rangeAt a 0 l ∧ w'.rangeAt b 0 m ∧ w'.rangeAt c 0 k ∧ Below X.heap.size X w' := by
  obtain ⟨h1, h2, h3, h4⟩ := h
  have := h4.size
  exact ⟨keep_range (by omega) h1 hw, keep_range (by omega) h2 hw, keep_range (by omega) h3 hw, h4.trans (hw.mono h4.size)⟩
theorem then_panic {K : Act → World → Prop} {s : Nat} {v : Value} {w : World} {ch : List PanicEntry} {a a' : Act} {w' : World} (h : Exit.then K (RetSlot s v w) (.panic ch) a w') : Exit.then K (RetSlot s v w) (.panic ch) a' w' := by
  have h2 : RetSlot s v w (.panic ch) a w' := h
  cases h2.1
theorem below_drew' {B : Nat} {a w : World} (h : Below B a w) : Below B a w.drew := h.drew

set_option maxRecDepth 100000 in
set_option maxHeartbeats 4000000 in
theorem maps18 (u0 u1 u4 u5 u6 u7 u8 u9 u10 u11 u12 u13 u14 u15 u16 u17 u18 u19 u20 u21 u22 u23 u24 u25 u26 u27 u28 u29 u30 u31 u32 u33 u34 u35 u36 u37 u38 u39 u40 u41 u42 u43 u44 u45 u46 u47 u48 u49 u50 u51 u52 u53 u54 u55 u56 u57 u58 u59 u60 u61 u62 u63 u64 u65 u66 u67 u68 u69 u70 u71 u72 u73 u74 u75 u76 u77 u78 u79 u80 u81 u82 u83 u84 u85 u86 u87 u88 u89 u90 u91 u92 u93 u94 u95 u96 u97 u98 u99 u100 u101 u102 u103 u104 u105 u106 u107 u108 u109 u110 u111 u112 u113 u114 u115 u116 u117 u118 u119 u120 u121 u122 u123 u124 u125 u126 u127 u128 u129 u130 u131 u132 u133 u134 u135 u136 u137 u138 u139 u140 u141 u142 u143 u144 u145 u146 u147 u148 u149 u150 u151 u152 u153 u154 u155 : Value) (nb : Nat) (t : Tr) (A : Option Addr) (c : Nat) (by_ : Int) (w1 : World) (hn : w1.heap[nb]? = some (.cells (nodeA t.d A t.l.length c) 34)) (hby : w1.heap[nb + 1]? = some (.cells #[.int .i64 by_] 3))
    (hd : t.d.ok) (hs : SlAt w1 nb A c t.l) (hz : t.size ≤ 1048576) :
    Code.wp Tryd.prog maps18C (RetSlot 4 (.bool true) w1) ⟨#[u0, u1, .pointer (some ⟨nb, 0, none⟩), .pointer (some ⟨nb + 1, 0, none⟩), u4, u5, u6, u7, u8, u9, u10, u11, u12, u13, u14, u15, u16, u17, u18, u19, u20, u21, u22, u23, u24, u25, u26, u27, u28, u29, u30, u31, u32, u33, u34, u35, u36, u37, u38, u39, u40, u41, u42, u43, u44, u45, u46, u47, u48, u49, u50, u51, u52, u53, u54, u55, u56, u57, u58, u59, u60, u61, u62, u63, u64, u65, u66, u67, u68, u69, u70, u71, u72, u73, u74, u75, u76, u77, u78, u79, u80, u81, u82, u83, u84, u85, u86, u87, u88, u89, u90, u91, u92, u93, u94, u95, u96, u97, u98, u99, u100, u101, u102, u103, u104, u105, u106, u107, u108, u109, u110, u111, u112, u113, u114, u115, u116, u117, u118, u119, u120, u121, u122, u123, u124, u125, u126, u127, u128, u129, u130, u131, u132, u133, u134, u135, u136, u137, u138, u139, u140, u141, u142, u143, u144, u145, u146, u147, u148, u149, u150, u151, u152, u153, u154, u155], []⟩ w1 := by
  have hnlt : nb + 1 < w1.heap.size := (Array.getElem?_eq_some_iff.1 hby).1
  have hbyc : w1.cell? ⟨nb + 1, 0, none⟩ = some (.int .i64 by_) := by rw [Lib.cell_of_heap hby]; rfl
  have hm := mapF_c t w1 A c hd (hs.more (by omega)) hz 21 #[.pointer (some ⟨nb + 1, 0, none⟩)] (pickF by_) (JPick w1.heap.size w1) JPick.ok (maps2_c w1 w1.heap.size (nb + 1) by_ hby hnlt (Nat.le_refl _)) (fun _ _ => by kernel_rfl) (Below.refl _ _)
  obtain ⟨N, hN⟩ : ∃ N, N = nodeA t.d A t.l.length c := ⟨_, rfl⟩
  rw [← hN] at hn
  rw [nodeV, ← hN] at hm
  have hNs : N.size = 22 := by rw [hN]; rfl
  have hNo : N.all (·.oneCell') = true := by rw [hN]; exact node_one _ _ _ _
  have HM := Lib.hid hm
  have HN := Lib.hid hN
  have HNS := Lib.hid hNs
  have HNO := Lib.hid hNo
  have HNH := Lib.hid hn
  have HD := Lib.hid hd
  have HS := Lib.hid hs
  have HBY := Lib.hid hby
  clear hm hN hNs hNo hn hd hs hby hbyc
  dsimp only
  conv => arg 2; whnf
  go_wp2_with (first | (refine wpList_row rfl 34 _ rfl nb rfl 34 N (0, 0) _ HNH.out undN rfl (infS HNS.out) ?_) | fail)
  refine HM.out.mono ?_
  rintro e w2 ⟨A2, c2, rfl, hd2, hs2, hj2⟩
  have hb2 : Below w1.heap.size w1 w2 := hj2
  obtain ⟨r, hr⟩ : ∃ r, r = mapT (pickF by_) t := ⟨_, rfl⟩
  rw [← hr] at hd2 hs2 ⊢
  obtain ⟨P, hP⟩ : ∃ P, P = nodeA r.d A2 r.l.length c2 := ⟨_, rfl⟩
  have hPs : P.size = 22 := by rw [hP]; rfl
  have hPo : P.all (·.oneCell') = true := by rw [hP]; exact node_one _ _ _ _
  rw [nodeV, ← hP]
  have hn2 : (w2.alloc (.cells P 34)).heap[nb]? = some (.cells N 34) := (heapOld _ _ _ (by have := hb2.size; omega)).trans ((hb2.block nb (by omega)).trans HNH.out)
  obtain ⟨W, hW⟩ : ∃ W, W = (w2.alloc (.cells P 34)).alloc (.cells N 34) := ⟨_, rfl⟩
  have HN2 := Lib.hid hn2
  have HP := Lib.hid hP
  have HPS := Lib.hid hPs
  have HPO := Lib.hid hPo
  have HR := Lib.hid hr
  have HD2 := Lib.hid hd2
  have HS2 := Lib.hid hs2
  have HB2 := Lib.hid hb2
  have HW := Lib.hid hW
  clear hn2 hP hPs hPo hr hd2 hs2 hb2 hj2 hW HM
  go_upto_region 19 with (first | (refine wpList_nodeVar rfl rfl w2.heap.size rfl ?_) | (refine wpList_storeFresh (w := w2) rfl _ _ _ rfl w2.heap.size rfl P rfl rfl (infS HPS.out) HPS.out.symm HPO.out ?_) | fail)
  simp only [Act.put, List.setIfInBounds_toArray, List.set_cons_zero, List.set_cons_succ]
  go_wp2_with (first | (refine wpList_row rfl 34 _ rfl nb rfl 34 N (0, 0) _ HN2.out undN rfl (infS HNS.out) ?_) | (refine wpList_nodeVar rfl rfl (w2.heap.size + 1) (by simp) ?_) | (refine wpList_storeFresh (w := w2.alloc (.cells P 34)) rfl _ _ _ rfl (w2.heap.size + 1) (World.size_alloc _ _) N rfl rfl (infS HNS.out) HNS.out.symm HNO.out ?_) | fail)
  simp only [Act.put, List.setIfInBounds_toArray, List.set_cons_zero, List.set_cons_succ]
  rw [← HW.out]
  have hWq : W.heap[w2.heap.size + 1]? = some (.cells N 34) := by
    rw [HW.out]; have := heap_alloc_new (w2.alloc (.cells P 34)) (.cells N 34); rwa [World.size_alloc] at this
  have hWp : W.heap[w2.heap.size]? = some (.cells P 34) := by rw [HW.out]; exact (heapOld _ _ _ (by simp)).trans (heap_alloc_new _ _)
  have hWb : Below w2.heap.size w2 W := by rw [HW.out]; exact ((Below.refl _ w2).alloc (Nat.le_refl _) _).alloc (by simp) _
  have hbW : Below w1.heap.size w1 W := HB2.out.trans (hWb.mono HB2.out.size)
  have HWQ := Lib.hid hWq
  have HWP := Lib.hid hWp
  have HWB := Lib.hid hWb
  have HBW := Lib.hid hbW
  have hz2 : w1.heap.size ≤ w2.heap.size := HB2.out.size
  clear hWq hWp hWb hbW
  go_loopg [126] t.size (fun gk _ wx => QRel nb (w2.heap.size + 1) by_ t W gk wx)
  case atStart => exact ⟨t, A, c, rfl, by rw [← HN.out]; exact HWQ.out, HD.out, HS.out.below (HBW.out.mono (by omega)), rfl, hz, Below.refl _ _⟩
  case round =>
    obtain ⟨y, yA, yc, rfl, hq, hyd, hys, hym, hyz, hqb⟩ := hrel
    obtain ⟨k, hk⟩ : ∃ k, k = y.l.length := ⟨_, rfl⟩
    rw [← hk] at hq
    have hq21 : wr.cell? ⟨w2.heap.size + 1, 21, none⟩ = some (.slice yA k yc) := by
      rw [Lib.cell_of_heap hq]; exact (nodeA_all y.d yA k yc).2.2.2.2.2.2.2.2.2.2.2.2.2.2.2.2.2.2.2.2.2
    have hb1 : Below w1.heap.size w1 wr := HBW.out.trans (hqb.mono (by have := HWB.out.size; omega))
    have hbyr : wr.cell? ⟨nb + 1, 0, none⟩ = some (.int .i64 by_) := by rw [Lib.cell_of_heap ((hb1.block _ hnlt).trans HBY.out)]; rfl
    have hyl : k ≤ 1048576 := by have := sizes_len y.l; obtain ⟨yd, yl⟩ := y; simp only [Tr.size, Tr.l] at *; omega
    have hycap : k ≤ yc ∧ yc ≤ 9223372036854775807 := ⟨by rw [hk]; exact hys.1, hys.2.1⟩
    obtain ⟨hyc1, hyc2⟩ := hycap
    have HK := Lib.hid hk
    have HQ := Lib.hid hq
    have HYD := Lib.hid hyd
    have HYS := Lib.hid hys
    have HYM := Lib.hid hym
    have HQB := Lib.hid hqb
    have HB1 := Lib.hid hb1
    clear hk hq hyd hys hym hqb hb1
    by_cases h0 : k = 0
    · as_aux_lemma =>
      subst h0
      go_wp2
      have hyl0 : y.l = [] := List.length_eq_zero_iff.1 HK.out.symm
      have hry : r = y := by rw [HR.out, HYM.out, pick_leaf by_ y hyl0]
      have hN0 := HN.out
      have hP0 := HP.out
      obtain ⟨Nl, hNl⟩ : ∃ Nl : List Value, Nl.toArray = N := ⟨N.toList, by simp⟩
      obtain ⟨Pl, hPl⟩ : ∃ Pl : List Value, Pl.toArray = P := ⟨P.toList, by simp⟩
      obtain ⟨Yl, hYl⟩ : ∃ Yl : List Value, Yl.toArray = nodeA y.d yA 0 yc := ⟨(nodeA y.d yA 0 yc).toList, by simp⟩
      have hn3 : wr.heap[nb]? = some (.cells N 34) := (HB1.out.block nb (by omega)).trans HNH.out
      have hp3 : wr.heap[w2.heap.size]? = some (.cells P 34) := (HQB.out.block _ (by omega)).trans HWP.out
      have rN : wr.rangeAt nb 0 Nl := by have := row_range hn3; rwa [← hNl] at this
      have rP : wr.rangeAt w2.heap.size 0 Pl := by have := row_range hp3; rwa [← hPl] at this
      have rY : wr.rangeAt (w2.heap.size + 1) 0 Yl := by have := row_range HQ.out; rwa [← hYl] at this
      have hi1 : (Tryd.prog.info? 34).map (·.size) = some Nl.length := by have := infS HNS.out; rw [← hNl] at this; simpa using this
      have hi2 : (Tryd.prog.info? 34).map (·.size) = some Pl.length := by have := infS HPS.out; rw [← hPl] at this; simpa using this
      have hi3 : (Tryd.prog.info? 34).map (·.size) = some Yl.length := by have := infN; rw [show Yl.length = 22 from by have := congrArg Array.size hYl; rw [nodeA_size] at this; simpa using this]; exact this
      have hundN := undN
      have hsub : Below wr.heap.size wr wr.drew := (Below.refl _ _).drew
      have hwq : w2.heap.size + 1 < wr.heap.size := by have := hq21; exact World.block_lt_of_cell? wr _ this
      have hc1 : ∀ wx, Below wr.heap.size wr wx → Calls Tryd.prog 15 #[.agg Pl.toArray, .agg Yl.toArray] wx fun e w' => e = .returned (.bool true) ∧ Below wx.heap.size wx w' := fun wx hx => by
        have := rsame_c r y wx wx.heap.size A2 yA c2 yc HD2.out ((((HS2.out.at_ (fun b o h => h.2)).below HWB.out).below (HQB.out.mono (by omega))).below (hx.mono (by omega)) |>.more (by have := hx.size; omega)) HYD.out ((HYS.out.below (hx.mono (by omega))).more (by have := hx.size; omega)) (Nat.le_refl _)
        rw [(sameB_eq r y).2 hry, ← HK.out, nodeV, nodeV, ← hP0, ← hYl, ← hPl] at this
        exact this
      have hc2 : ∀ wx, Below wr.heap.size wr wx → Calls Tryd.prog 19 #[.agg Nl.toArray, .nilFunc] wx (CopyPost wx t) := fun wx hx => by
        have := mapNil_c t wx A c HD.out ((HS.out.below ((HB1.out.trans (hx.mono HB1.out.size)).mono (by omega))).more (by have := hx.size; omega)) hz
        rw [nodeV, ← hN0, ← hNl] at this
        exact this
      have hc3 : ∀ wx lo A4 c4 ks M4, M4 = nodeA t.d A4 t.l.length c4 → List.map AT.tr ks = t.l → FreshKids wx lo A4 c4 ks → Below wr.heap.size wr wx → Calls Tryd.prog 15 #[.agg M4, .agg Nl.toArray] wx fun e w' => e = .returned (.bool true) ∧ Below wx.heap.size wx w' := fun wx lo A4 c4 ks M4 hM4 hk hf hx => by
        have hsl := hf.sl (Nat.le_refl _)
        rw [hk] at hsl
        have := rsame_c t t wx wx.heap.size A4 A c4 c HD.out hsl HD.out ((HS.out.below ((HB1.out.trans (hx.mono HB1.out.size)).mono (by omega))).more (by have := hx.size; omega)) (Nat.le_refl _)
        rw [(sameB_eq t t).2 rfl, nodeV, nodeV, ← hN0, ← hNl, ← hM4] at this
        exact this
      have HC1 := Lib.hid hc1
      have HC2 := Lib.hid hc2
      have HC3 := Lib.hid hc3
      have HKP := Lib.hid (fun w' w'' (h : w'.rangeAt nb 0 Nl ∧ w'.rangeAt w2.heap.size 0 Pl ∧ w'.rangeAt (w2.heap.size + 1) 0 Yl ∧ Below wr.heap.size wr w') (hb : Below w'.heap.size w' w'') => (keep_ranges (by omega) (by omega) hwq h hb : w''.rangeAt nb 0 Nl ∧ w''.rangeAt w2.heap.size 0 Pl ∧ w''.rangeAt (w2.heap.size + 1) 0 Yl ∧ Below wr.heap.size wr w''))
      clear hc1 hc2 hc3 hN0 hP0 hNl hPl hYl hn3 hp3 hyl0 hry hq21 hbyr
      refine wp_region_held_drew (S := fun w' => w'.rangeAt nb 0 Nl ∧ w'.rangeAt w2.heap.size 0 Pl ∧ w'.rangeAt (w2.heap.size + 1) 0 Yl ∧ Below wr.heap.size wr w') (by kernel_rfl) ⟨rN, rP, rY, hsub⟩ (fun hHeld => ?_)
      refine wpAnyH_take (i := 0) (oi := { dst := some 147, op := Op.load 34 (Operand.tmp 12), type := 34, pos := "law.go:165", after := #[], guard := none }) (v := .agg Pl.toArray) rfl (by kernel_rfl) (by kernel_rfl) (by kernel_rfl) (fun _ _ _ h => then_panic h) (yieldsIf_load_mid (by rfl) 34 (Operand.tmp 12) rfl w2.heap.size 0 rfl Pl _ (fun w h => h.2.1) undN rfl hi2) (by assumption) ?_
      simp only [Act.put, List.setIfInBounds_toArray, List.set_cons_zero, List.set_cons_succ]
      refine wpAnyH_take (i := 1) (oi := { dst := some 148, op := Op.load 34 (Operand.tmp 13), type := 34, pos := "law.go:165", after := #[], guard := none }) (v := .agg Yl.toArray) rfl (by kernel_rfl) (by kernel_rfl) (by kernel_rfl) (fun _ _ _ h => then_panic h) (yieldsIf_load_mid (by rfl) 34 (Operand.tmp 13) rfl (w2.heap.size + 1) 0 rfl Yl _ (fun w h => h.2.2.1) undN rfl hi3) (by assumption) ?_
      simp only [Act.put, List.setIfInBounds_toArray, List.set_cons_zero, List.set_cons_succ]
      refine wpAnyH_ready (rs := [2]) (by kernel_rfl) (by simp) ?_
      refine AllReadyH.cons (o := { dst := some 149, op := Op.call { callee := Callee.value (Operand.func 15), args := #[Operand.tmp 147, Operand.tmp 148], argTypes := #[34, 34] }, type := 4, pos := "law.go:165", after := #[{ on := 0, ground := Ground.data }, { on := 1, ground := Ground.data }], guard := none }) rfl (fun K hK => ?_) AllReadyH.nil
      go_simp
      refine (HC1.out _ hHeld.2.2.2).mono ?_
      rintro e w4 ⟨rfl, hb4⟩
      try go_simp
      have hH4 := HKP.out _ _ hHeld hb4
      refine hK.out _ _ hH4 (fun hHeld4 => ?_)
      clear hK K hHeld hH4
      try simp only [Act.put, List.setIfInBounds_toArray, List.set_cons_zero, List.set_cons_succ]
      refine wpAnyH_take (i := 3) (oi := { dst := some 150, op := Op.move (Operand.tmp 149), type := 4, pos := "law.go:165", after := #[{ on := 2, ground := Ground.data }, { on := 2, ground := Ground.chain }], guard := none }) (v := ?_) rfl (by kernel_rfl) (by kernel_rfl) (by kernel_rfl) (fun _ _ _ h => then_panic h) (Or.inl ⟨by rfl, ?_⟩) (by assumption) ?_
      rotate_left
      · intro w hSw
        (try dsimp only at hSw)
        go_simp
        try with_reducible rfl
      simp only [Act.put, List.setIfInBounds_toArray, List.set_cons_zero, List.set_cons_succ]
      refine wpAnyH_take (i := 4) (oi := { dst := some 151, op := Op.load 34 (Operand.tmp 2), type := 34, pos := "law.go:165", after := #[{ on := 3, ground := Ground.guard }], guard := some (3, true) }) (v := .agg Nl.toArray) rfl (by kernel_rfl) (by kernel_rfl) (by kernel_rfl) (fun _ _ _ h => then_panic h) (yieldsIf_load_mid (by rfl) 34 (Operand.tmp 2) rfl nb 0 rfl Nl _ (fun w h => h.1) undN rfl hi1) (by assumption) ?_
      simp only [Act.put, List.setIfInBounds_toArray, List.set_cons_zero, List.set_cons_succ]
      refine wpAnyH_take (i := 6) (oi := { dst := some 153, op := Op.load 34 (Operand.tmp 2), type := 34, pos := "law.go:165", after := #[{ on := 3, ground := Ground.guard }], guard := some (3, true) }) (v := .agg Nl.toArray) rfl (by kernel_rfl) (by kernel_rfl) (by kernel_rfl) (fun _ _ _ h => then_panic h) (yieldsIf_load_mid (by rfl) 34 (Operand.tmp 2) rfl nb 0 rfl Nl _ (fun w h => h.1) undN rfl hi1) (by assumption) ?_
      simp only [Act.put, List.setIfInBounds_toArray, List.set_cons_zero, List.set_cons_succ]
      refine wpAnyH_ready (rs := [5]) (by kernel_rfl) (by simp) ?_
      refine AllReadyH.cons (o := { dst := some 152, op := Op.call { callee := Callee.value (Operand.func 19), args := #[Operand.tmp 151, Operand.const Value.nilFunc], argTypes := #[34, 50] }, type := 34, pos := "law.go:165", after := #[{ on := 4, ground := Ground.data }, { on := 3, ground := Ground.chain }, { on := 3, ground := Ground.guard }], guard := some (3, true) }) rfl (fun K hK => ?_) AllReadyH.nil
      go_simp
      refine (HC2.out _ hHeld4.2.2.2).mono ?_
      rintro e w5 ⟨A4, c4, ks, rfl, hks, hfr, hb5⟩
      obtain ⟨M4, hM4⟩ : ∃ M4, M4 = nodeA t.d A4 t.l.length c4 := ⟨_, rfl⟩
      rw [nodeV, ← hM4]
      have HFR := Lib.hid hfr
      have HKS := Lib.hid hks
      have HM4 := Lib.hid hM4
      clear hfr hks hM4
      try go_simp
      have hH5 := HKP.out _ _ hHeld4 hb5
      refine hK.out _ _ hH5 (fun hHeld5 => ?_)
      clear hK K hHeld4 hH5
      try simp only [Act.put, List.setIfInBounds_toArray, List.set_cons_zero, List.set_cons_succ]
      refine wpAnyH_ready (rs := [7]) (by kernel_rfl) (by simp) ?_
      refine AllReadyH.cons (o := { dst := some 154, op := Op.call { callee := Callee.value (Operand.func 15), args := #[Operand.tmp 152, Operand.tmp 153], argTypes := #[34, 34] }, type := 4, pos := "law.go:165", after := #[{ on := 5, ground := Ground.data }, { on := 6, ground := Ground.data }, { on := 5, ground := Ground.chain }, { on := 3, ground := Ground.guard }], guard := some (3, true) }) rfl (fun K hK => ?_) AllReadyH.nil
      go_simp
      refine (HC3.out _ _ _ _ _ _ HM4.out HKS.out HFR.out hHeld5.2.2.2).mono ?_
      rintro e w6 ⟨rfl, hb6⟩
      try go_simp
      have hH6 := HKP.out _ _ hHeld5 hb6
      refine hK.out _ _ hH6 (fun hHeld6 => ?_)
      clear hK K hHeld5 hH6
      try simp only [Act.put, List.setIfInBounds_toArray, List.set_cons_zero, List.set_cons_succ]
      refine wpAnyH_take (i := 8) (oi := { dst := some 155, op := Op.pick (Operand.tmp 150) (Operand.tmp 154) (Operand.const (Value.bool false)), type := 4, pos := "law.go:165", after := #[{ on := 3, ground := Ground.data }, { on := 7, ground := Ground.data }], guard := none }) (v := ?_) rfl (by kernel_rfl) (by kernel_rfl) (by kernel_rfl) (fun _ _ _ h => then_panic h) (Or.inl ⟨by rfl, ?_⟩) (by assumption) ?_
      rotate_left
      · intro w hSw
        (try dsimp only at hSw)
        go_simp
        try with_reducible rfl
      simp only [Act.put, List.setIfInBounds_toArray, List.set_cons_zero, List.set_cons_succ]
      refine wpAnyH_take (i := 9) (oi := { dst := some 4, op := Op.assign (Operand.tmp 155), type := 4, pos := "law.go:165", after := #[{ on := 8, ground := Ground.data }, { on := 7, ground := Ground.chain }, { on := 0, ground := Ground.phase }, { on := 1, ground := Ground.phase }, { on := 2, ground := Ground.phase }, { on := 3, ground := Ground.phase }, { on := 4, ground := Ground.phase }, { on := 5, ground := Ground.phase }, { on := 6, ground := Ground.phase }, { on := 7, ground := Ground.phase }, { on := 8, ground := Ground.phase }], guard := none }) (v := ?_) rfl (by kernel_rfl) (by kernel_rfl) (by kernel_rfl) (fun _ _ _ h => then_panic h) (Or.inl ⟨by rfl, ?_⟩) (by assumption) ?_
      rotate_left
      · intro w hSw
        (try dsimp only at hSw)
        go_simp
        try with_reducible rfl
      simp only [Act.put, List.setIfInBounds_toArray, List.set_cons_zero, List.set_cons_succ]
      refine wpAnyH_done (by kernel_rfl) ?_ _
      go_wp2
      exact ⟨rfl, rfl, rfl, HB1.out.trans (hHeld6.2.2.2.mono HB1.out.size)⟩
    · as_aux_lemma =>
      have hpos : 0 < k := by omega
      obtain ⟨hpi, hpl⟩ := pickI_eq by_ k hpos hyl
      obtain ⟨i, hi⟩ : ∃ i, i = pickI by_ k := ⟨_, rfl⟩
      rw [← hi] at hpi hpl
      have hil : i < y.l.length := by rw [← HK.out]; exact hpl
      obtain ⟨b', o', hA, hnd⟩ := HYS.out.at_ i hil
      subst hA
      obtain ⟨hgb, hkd, kA, kc, hkc, hks⟩ := hnd.open_
      obtain ⟨cs, e1, e2, e3⟩ := hkc.range (w' := wr) (fun p hp => rfl)
      have hinf : (Tryd.prog.info? 34).map (·.size) = some cs.length := by rw [e2]; exact infN
      have hcsz : cs.toArray.size = 22 := by simp [e2]
      have hcso : cs.toArray.all (·.oneCell') = true := by rw [e1]; exact node_one _ _ _ _
      have hpick : mapT (pickF by_) t = mapT (pickF by_) y.l[i] := by
        have hi2 : i = pickI by_ y.l.length := by rw [hi, HK.out]
        subst hi2
        rw [HYM.out]; exact pick_step by_ y hil
      have hless : y.l[i].size < y.size := by
        have h1 := mem_size (List.getElem_mem hil)
        obtain ⟨yd, yl⟩ := y; simp only [Tr.size, Tr.l] at *; omega
      rw [← IntWalk.i64_left] at hpi
      have HIN := Lib.hid hinf
      have HRG := Lib.hid e3
      have HCZ := Lib.hid hcsz
      have HCO := Lib.hid hcso
      have HE1 := Lib.hid e1
      have HPK := Lib.hid hpick
      have HKD := Lib.hid hkd
      have HKS := Lib.hid hks
      have HLS := Lib.hid hless
      have hlt0 : (0 : Int) ≤ (i : Int) := by omega
      have hlt2 : (i : Int) < (k : Int) := by omega
      clear hinf e1 e2 e3 hcsz hcso hpick hless hkd hks hkc hnd hi
      go_wp2
      refine wp_region_still_tail 17 (by kernel_rfl) (by kernel_rfl) ?_
      simp only [List.take_succ_cons, List.take_zero, List.drop_succ_cons, List.drop_zero]
      iterate 16 still_step
      refine still_mid rfl 34 _ rfl b' (o' + i * 22) rfl cs _ HRG.out undN rfl HIN.out ?_
      (try simp only [Act.put, List.setIfInBounds_toArray, List.set_cons_zero, List.set_cons_succ])
      refine wpStill_nil ?_
      change wpList _ _ _ _ _ wr.drew
      have HQ' : Hid (wr.drew.heap[w2.heap.size + 1]? = some (.cells (nodeA y.d (some ⟨b', o', none⟩) k yc) 34)) := Lib.hid HQ.out
      go_wp2_with (first | (refine wpList_store_row rfl 34 _ _ rfl (w2.heap.size + 1) cs.toArray rfl rfl 34 (nodeA y.d (some ⟨b', o', none⟩) k yc) HQ'.out (infS HCZ.out) HCZ.out.symm HCO.out ?_) | fail)
      go_roundg (y.l[i].size)
      case measure => exact HLS.out
      case rel =>
        have hb3 : Below (w2.heap.size + 1) wr (wr.drew.setRow (w2.heap.size + 1) cs.toArray) := below_row (below_drew' (Below.refl _ _)) (Nat.le_refl _) _
        refine ⟨y.l[i], kA, kc, rfl, by rw [← HE1.out]; exact setRow_heap _ _ _ _ _ _ HQ'.out, HKD.out, HKS.out.below (hb3.mono (by omega)), HPK.out, ?_, HQB.out.trans hb3⟩
        have := HLS.out; omega
end Go.Proofs.YtggpffipijoddaaDoor
