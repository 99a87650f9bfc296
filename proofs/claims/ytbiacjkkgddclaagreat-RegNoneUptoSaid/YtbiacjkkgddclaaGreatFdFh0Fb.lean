/- counterpaneref06.below, one, area. counterpaneref06.letter, digit, digits. counterpaneref06.address. -/
import Derived.Test.YtbiacjkkgddclaaGreatXsFhTz0Cu
import Derived.Test.YtbiacjkkgddclaaGreatRnH3Ov
import Derived.Deep.Cut
import Derived.Test.YtbiacjkkgddclaaGreatCdRrRz
import Derived.Test.YtbiacjkkgddclaaGreatRlChCmCc
namespace Go.Proofs.YtbiacjkkgddclaaGreat
open Go.RowKit Go.Shelf

/-- a literal below 0. -/
def belowB (d : ND) : Bool := decide (d.kind = 0) && decide (d.v.k = 1) && decide (d.v.mant < 0)
set_option maxRecDepth 100000 in
set_option maxHeartbeats 2000000 in
theorem rbelow_any (w : World) (d : ND) (A : Option Addr) (n c : Nat) :
    Calls Tryz.prog 50 #[nodeV d A n c] w fun e w' => e = .returned (.bool (belowB d)) ∧ Below w.heap.size w w' := by
  obtain ⟨N, hN⟩ : ∃ N, N = nodeA d A n c := ⟨_, rfl⟩
  obtain ⟨W, hW⟩ : ∃ W, W = w.alloc (.cells N 35) := ⟨_, rfl⟩
  have hBW : Below w.heap.size w W := by rw [hW]; exact (Below.refl _ w).alloc (Nat.le_refl _) _
  have hbx : NodeCells W w.heap.size 0 d A n c := by rw [hW, hN]; exact box_cells w d A n c _
  obtain ⟨h0, h1, h2, -⟩ := hbx.all
  simp only [Nat.zero_add] at h0 h1 h2
  rw [nodeV, ← hN]
  unfold belowB
  obtain ⟨kind, ⟨k, m, x, s, b, f⟩, name, a, q, rows⟩ := d
  dsimp only at h0 h1 h2 ⊢
  have HW := Lib.hid hW
  have HBW := Lib.hid hBW
  clear hN hW hBW hbx
  by_cases k0 : kind = 0
  · subst k0
    by_cases k1 : k = 1
    · subst k1
      by_cases k2 : m < 0
      · go_enter Tryz.func50, Tryz.ntmps50
        go_upto_region 1 with (fail)
        rw [← HW.out]
        go_wp2
        go_ret
        exact ⟨ret_bool (by simp [k2]), HBW.out⟩
      · go_enter Tryz.func50, Tryz.ntmps50
        go_upto_region 1 with (fail)
        rw [← HW.out]
        go_wp2
        go_ret
        exact ⟨ret_bool (by simp [k2]), HBW.out⟩
    · have q1 : (k == 1) = false := by simpa using k1
      have HK := Lib.hid k1
      clear k1
      go_enter Tryz.func50, Tryz.ntmps50
      go_upto_region 1 with (fail)
      rw [← HW.out]
      go_wp2
      go_ret
      exact ⟨ret_bool (by simp [HK.out]), HBW.out⟩
  · have q1 : (kind == 0) = false := by simpa using k0
    have HK := Lib.hid k0
    clear k0
    go_enter Tryz.func50, Tryz.ntmps50
    go_upto_region 1 with (fail)
    rw [← HW.out]
    go_wp2
    go_ret
    exact ⟨ret_bool (by simp [HK.out]), HBW.out⟩

set_option maxRecDepth 100000 in
set_option maxHeartbeats 2000000 in
theorem rone_any (a : Cn) (w : World) : Calls Tryz.prog 90 #[.agg a.arr] w fun e w' => e = .returned (.bool (a.row && a.col)) ∧ Below w.heap.size w w' := by
  have e1 := fun w => eqI w a.ra a.rn 0 0
  have e2 := fun w => eqI w a.ca a.cn 0 0
  unfold Cn.row Cn.col Cn.arr
  generalize decide (a.ra = 0 ∧ a.rn = 0) = q1 at *
  generalize decide (a.ca = 0 ∧ a.cn = 0) = q2 at *
  obtain ⟨a1, a2, a3, a4, a5, a6⟩ := a
  dsimp only at e1 e2 ⊢
  cases q1 <;> cases q2
  all_goals
    go_enter Tryz.func90, Tryz.ntmps90
    go_wp2
    go_ret
    exact ⟨rfl, (Below.refl _ w).alloc (Nat.le_refl _) _⟩

noncomputable def areaC : Code := Tryz.f91.body.getD .skip
noncomputable def area3C : Code := fromRegion 3 areaC
/-- two corners in their boxes. -/
def Corners (g : Nat) (a b : Cn) (w : World) : Prop := w.heap[g]? = some (.cells a.arr 30) ∧ w.heap[g + 1]? = some (.cells b.arr 30)
theorem Corners.below {g : Nat} {a b : Cn} {w w' : World} (h : Corners g a b w) (hb : Below w.heap.size w w') : Corners g a b w' :=
  ⟨(hb.block _ (Array.getElem?_eq_some_iff.1 h.1).1).trans h.1, (hb.block _ (Array.getElem?_eq_some_iff.1 h.2).1).trans h.2⟩
def areaR (a b : Cn) : Bool := (a.row && b.row && !a.col && !b.col && !a.fc && !b.fc) || (a.col && b.col && !a.row && !b.row && !a.fr && !b.fr)
set_option maxRecDepth 100000 in
set_option maxHeartbeats 4000000 in
theorem area3 (u0 u1 u4 u5 u6 u7 u8 u9 u10 u11 u12 u13 u14 u15 u16 u17 u18 u19 u20 u21 u22 u23 u24 u25 u26 u27 u28 u29 u30 u31 u32 u33 u34 u35 u36 u37 u38 u39 u40 u41 u42 u43 u44 u45 u46 u47 u48 u49 u50 u51 u52 u53 u54 u55 u56 u57 u58 u59 u60 u61 u62 u63 u64 u65 u66 u67 u68 u69 u70 u71 u72 u73 u74 u75 u76 u77 u78 u79 u80 : Value) (a b : Cn) (g : Nat) (w : World) (h : Corners g a b w) :
    Code.wp Tryz.prog area3C (RetSlot 4 (.bool (areaR a b)) w) ⟨#[u0, u1, .pointer (some ⟨g, 0, none⟩), .pointer (some ⟨g + 1, 0, none⟩), u4, u5, u6, u7, u8, u9, u10, u11, u12, u13, u14, u15, u16, u17, u18, u19, u20, u21, u22, u23, u24, u25, u26, u27, u28, u29, u30, u31, u32, u33, u34, u35, u36, u37, u38, u39, u40, u41, u42, u43, u44, u45, u46, u47, u48, u49, u50, u51, u52, u53, u54, u55, u56, u57, u58, u59, u60, u61, u62, u63, u64, u65, u66, u67, u68, u69, u70, u71, u72, u73, u74, u75, u76, u77, u78, u79, u80], []⟩ w := by
  dsimp only
  conv => arg 2; whnf
  have e1 := fun w => eqI w a.ra a.rn 0 0
  have e2 := fun w => eqI w a.ca a.cn 0 0
  have e3 := fun w => eqI w b.ra b.rn 0 0
  have e4 := fun w => eqI w b.ca b.cn 0 0
  obtain ⟨ha, hb⟩ := h
  obtain ⟨a1, a2, a3, a4, a5, a6⟩ := a
  obtain ⟨b1, b2, b3, b4, b5, b6⟩ := b
  have x0 : w.cell? ⟨g, 0, none⟩ = some (.int .i64 a1) := by rw [Lib.cell_of_heap ha]; rfl
  have x1 : w.cell? ⟨g, 1, none⟩ = some (.int .i64 a2) := by rw [Lib.cell_of_heap ha]; rfl
  have x2 : w.cell? ⟨g, 2, none⟩ = some (.int .i64 a3) := by rw [Lib.cell_of_heap ha]; rfl
  have x3 : w.cell? ⟨g, 3, none⟩ = some (.int .i64 a4) := by rw [Lib.cell_of_heap ha]; rfl
  have x4 : w.cell? ⟨g, 4, none⟩ = some (.bool a5) := by rw [Lib.cell_of_heap ha]; rfl
  have x5 : w.cell? ⟨g, 5, none⟩ = some (.bool a6) := by rw [Lib.cell_of_heap ha]; rfl
  have y0 : w.cell? ⟨g + 1, 0, none⟩ = some (.int .i64 b1) := by rw [Lib.cell_of_heap hb]; rfl
  have y1 : w.cell? ⟨g + 1, 1, none⟩ = some (.int .i64 b2) := by rw [Lib.cell_of_heap hb]; rfl
  have y2 : w.cell? ⟨g + 1, 2, none⟩ = some (.int .i64 b3) := by rw [Lib.cell_of_heap hb]; rfl
  have y3 : w.cell? ⟨g + 1, 3, none⟩ = some (.int .i64 b4) := by rw [Lib.cell_of_heap hb]; rfl
  have y4 : w.cell? ⟨g + 1, 4, none⟩ = some (.bool b5) := by rw [Lib.cell_of_heap hb]; rfl
  have y5 : w.cell? ⟨g + 1, 5, none⟩ = some (.bool b6) := by rw [Lib.cell_of_heap hb]; rfl
  clear ha hb
  unfold areaR Cn.row Cn.col
  dsimp only at e1 e2 e3 e4 ⊢
  generalize decide (a1 = 0 ∧ a2 = 0) = q1 at *
  generalize decide (a3 = 0 ∧ a4 = 0) = q2 at *
  generalize decide (b1 = 0 ∧ b2 = 0) = q3 at *
  generalize decide (b3 = 0 ∧ b4 = 0) = q4 at *
  cases q1 <;> cases q3 <;> cases q2 <;> cases q4
  case' false.false.true.true => cases a6 <;> cases b6
  case' true.true.false.false => cases a5 <;> cases b5
  all_goals
    as_aux_lemma =>
    go_wp2
    exact ⟨rfl, rfl, rfl, Below.refl _ _⟩

set_option maxRecDepth 100000 in
set_option maxHeartbeats 4000000 in
theorem rarea_any (a b : Cn) (w : World) : Calls Tryz.prog 91 #[.agg a.arr, .agg b.arr] w fun e w' => e = .returned (.bool (rangeB a b)) ∧ Below w.heap.size w w' := by
  have oA := fun w => rone_any a w
  have oB := fun w => rone_any b w
  obtain ⟨NA, hNA⟩ : ∃ N, N = a.arr := ⟨_, rfl⟩
  obtain ⟨NB, hNB⟩ : ∃ N, N = b.arr := ⟨_, rfl⟩
  have hza : NA.size = 6 := by rw [hNA]; rfl
  have hzb : NB.size = 6 := by rw [hNB]; rfl
  have hres : rangeB a b = ((a.row && a.col) && (b.row && b.col) || areaR a b) := by
    unfold rangeB areaR
    cases a.row <;> cases a.col <;> cases b.row <;> cases b.col <;> cases a.fr <;> cases a.fc <;> cases b.fr <;> cases b.fc <;> rfl
  rw [hres]
  obtain ⟨W, hW⟩ : ∃ W, W = (w.alloc (.cells NA 30)).alloc (.cells NB 30) := ⟨_, rfl⟩
  have hbW : Below w.heap.size w W := by rw [hW]; exact ((Below.refl _ w).alloc (Nat.le_refl _) _).alloc (by simp) _
  have hkA : W.heap[w.heap.size]? = some (.cells NA 30) := by rw [hW]; exact (heapOld _ _ _ (by simp)).trans (heap_alloc_new _ _)
  have hkB : W.heap[w.heap.size + 1]? = some (.cells NB 30) := by
    rw [hW]; have := heap_alloc_new (w.alloc (.cells NA 30)) (.cells NB 30); rwa [World.size_alloc] at this
  have hco : Corners w.heap.size a b W := ⟨by rw [← hNA]; exact hkA, by rw [← hNB]; exact hkB⟩
  have hun : Tryz.prog.underlying 30 = some (.struct (Tryz.prog.fieldsOf 30)) := by kernel_rfl
  have hinA : (Tryz.prog.info? 30).map (·.size) = some NA.size := by rw [hza]; kernel_rfl
  have hinB : (Tryz.prog.info? 30).map (·.size) = some NB.size := by rw [hzb]; kernel_rfl
  obtain ⟨pa, hpa⟩ : ∃ p, p = (a.row && a.col) := ⟨_, rfl⟩
  obtain ⟨pb, hpb⟩ : ∃ p, p = (b.row && b.col) := ⟨_, rfl⟩
  rw [← hpa, ← hpb]
  simp only [← hpa, ← hNA] at oA
  simp only [← hpb, ← hNB] at oB
  rw [← hNA, ← hNB]
  have HOA := Lib.hid oA
  have HOB := Lib.hid oB
  have HW := Lib.hid hW
  have HBW := Lib.hid hbW
  have HCO := Lib.hid hco
  have HUN := Lib.hid hun
  have HIA := Lib.hid hinA
  have HIB := Lib.hid hinB
  clear hpa hpb oA oB hW hbW hco hNA hNB hza hzb hres hun hinA hinB
  go_enter Tryz.func91, Tryz.ntmps91
  have e3 := cut_from 3 areaC
  obtain ⟨C, hC⟩ : ∃ C, C = fromRegion 3 areaC := ⟨_, rfl⟩
  rw [← hC] at e3
  have HC := Lib.hid hC
  clear hC
  change Code.wp Tryz.prog areaC _ _ _
  rw [← e3]
  clear e3
  conv => arg 2; whnf; arg 2; whnf; arg 2; whnf
  go_upto_region 1 with (fail)
  (try simp only [Act.put, List.setIfInBounds_toArray, List.set_cons_zero, List.set_cons_succ])
  rw [← HW.out]
  have hfin : ∀ (w2 : World), Below W.heap.size W w2 → ∀ (e : Exit) (a' : Act) (w' : World), RetSlot 4 (.bool (areaR a b)) w2 e a' w' → bodyPost Tryz.prog Tryz.f91 (fun e w' => e = .returned (.bool (areaR a b)) ∧ Below w.heap.size w w') e a' w' := by
    rintro w2 hb2 e a' w' ⟨rfl, hd', h2, hb⟩
    refine bodyPost_ret (results_tmp rfl _ _ _) hd' ?_
    rw [h2]
    exact ⟨rfl, HBW.out.trans ((hb2.trans (hb.mono hb2.size)).mono HBW.out.size)⟩
  have HFIN := Lib.hid hfin
  clear hfin
  go_wp2_with (first | (refine wpList_row rfl 30 _ rfl w.heap.size rfl 30 NA (0, 0) _ hkA HUN.out rfl HIA.out ?_) | fail)
  refine (HOA.out _).mono ?_
  rintro e w2 ⟨rfl, hb2⟩
  have hkB2 : w2.heap[w.heap.size + 1]? = some (.cells NB 30) := (hb2.block _ (Array.getElem?_eq_some_iff.1 hkB).1).trans hkB
  cases pa
  case false =>
    simp only
    go_wp2
    refine Code.wp_mono (HFIN.out w2 hb2) ?_
    rw [HC.out]
    exact area3 _ _ _ _ _ _ _ _ _ _ _ _ _ _ _ _ _ _ _ _ _ _ _ _ _ _ _ _ _ _ _ _ _ _ _ _ _ _ _ _ _ _ _ _ _ _ _ _ _ _ _ _ _ _ _ _ _ _ _ _ _ _ _ _ _ _ _ _ _ _ _ _ _ _ _ _ _ _ _ a b w.heap.size w2 (HCO.out.below hb2)
  case true =>
    simp only
    go_wp2_with (first | (refine wpList_row rfl 30 _ rfl (w.heap.size + 1) rfl 30 NB (0, 0) _ hkB2 HUN.out rfl HIB.out ?_) | fail)
    refine (HOB.out _).mono ?_
    rintro e w3 ⟨rfl, hb3⟩
    have hb3' : Below W.heap.size W w3 := hb2.trans (hb3.mono hb2.size)
    cases pb
    case false =>
      simp only
      go_wp2
      refine Code.wp_mono (HFIN.out w3 hb3') ?_
      rw [HC.out]
      exact area3 _ _ _ _ _ _ _ _ _ _ _ _ _ _ _ _ _ _ _ _ _ _ _ _ _ _ _ _ _ _ _ _ _ _ _ _ _ _ _ _ _ _ _ _ _ _ _ _ _ _ _ _ _ _ _ _ _ _ _ _ _ _ _ _ _ _ _ _ _ _ _ _ _ _ _ _ _ _ _ a b w.heap.size w3 (HCO.out.below hb3')
    case true =>
      go_wp2
      go_ret
      exact ⟨rfl, HBW.out.trans (hb3'.mono HBW.out.size)⟩
end Go.Proofs.YtbiacjkkgddclaaGreat
namespace Go.Proofs.YtbiacjkkgddclaaGreat
open Go.RowKit Go.Shelf

set_option maxHeartbeats 400000 in
theorem letter_any (b : UInt8) (w : World) : Calls Tryz.prog 112 #[.int .u8 b.toNat] w fun e w' => e = .returned (.bool (isCap b)) ∧ w = w' := by
  have hb := b.toNat_lt
  unfold isCap
  generalize b.toNat = n at *
  by_cases h1 : 65 ≤ n <;> by_cases h2 : n ≤ 90 <;> simp only [h1, h2] <;> try omega
  all_goals
    go_enter Tryz.func112, Tryz.ntmps112
    go_wp2
    go_ret
    exact ⟨ret_bool (by first | rfl | (simp; omega) | simp), rfl⟩
set_option maxHeartbeats 400000 in
theorem digit_any (b : UInt8) (w : World) : Calls Tryz.prog 113 #[.int .u8 b.toNat] w fun e w' => e = .returned (.bool (isDig b)) ∧ w = w' := by
  have hb := b.toNat_lt
  unfold isDig
  generalize b.toNat = n at *
  by_cases h1 : 48 ≤ n <;> by_cases h2 : n ≤ 57 <;> simp only [h1, h2] <;> try omega
  all_goals
    go_enter Tryz.func113, Tryz.ntmps113
    go_wp2
    go_ret
    exact ⟨ret_bool (by first | rfl | (simp; omega) | simp), rfl⟩


/-- are all of a text digits? -/
def digitsB (s : ByteArray) : Bool := decide (runOf isDig s 0 = s.size)
set_option maxRecDepth 100000 in
set_option maxHeartbeats 1000000 in
theorem rdigits_any (s : ByteArray) (hs : s.size ≤ 9223372036854775807) (w : World) : Calls Tryz.prog 121 #[.string s] w fun e w' => e = .returned (.bool (digitsB s)) ∧ w = w' := by
  go_enter Tryz.func121, Tryz.ntmps121
  go_wp2
  go_loop [3] (fun i => ∃ k : Nat, k ≤ s.size ∧ i = .int .i64 k ∧ Hid (k + runOf isDig s k = runOf isDig s 0)) (fun i => s.size - (intOf i).toNat)
  case atStart => exact ⟨0, by omega, rfl, by show _ = _; omega⟩
  case round =>
    obtain ⟨k, hk, rfl, hsc⟩ := hrel
    by_cases hlt : k < s.size
    · have hD := fun w => digit_any s[k] w
      have hbl := s[k].toNat_lt
      by_cases hi : isDig s[k] = true
      · have hst : Hid (k + 1 + runOf isDig s (k + 1) = runOf isDig s 0) := by show _ = _; have := hsc.out; rw [runOf_step _ s k hlt hi] at this; omega
        rw [hi] at hD
        have HD := Lib.hid hD
        clear hi hsc hD
        go_wp2_with (go_at_call 113; refine (HD.out _).mono ?_; rintro e w' ⟨rfl, rfl⟩)
        go_round
        case rel => exact ⟨k + 1, by omega, by go_num, hst⟩
        case measure => simp [intOf]; omega
      · have hi' : isDig s[k] = false := by simpa using hi
        have hst : Hid (digitsB s = false) := by show _ = _; have := hsc.out; rw [runOf_stop _ s k (fun _ => hi')] at this; unfold digitsB; simp; omega
        rw [hi'] at hD
        have HD := Lib.hid hD
        clear hi hi' hsc hD
        go_wp2_with (go_at_call 113; refine (HD.out _).mono ?_; rintro e w' ⟨rfl, rfl⟩)
        go_ret
        exact ⟨ret_bool hst.out.symm, rfl⟩
    · have hst : Hid (digitsB s = true) := by show _ = _; have := hsc.out; rw [runOf_stop _ s k (fun h => absurd h hlt)] at this; unfold digitsB; simp; omega
      clear hsc
      go_wp2
      go_ret
      exact ⟨ret_bool hst.out.symm, rfl⟩
theorem digits_from (s : ByteArray) (k : Nat) (_ : k ≤ s.size) : digitsB (s.extract k s.size) = decide (k + runOf isDig s k = s.size) := by
  unfold digitsB
  rw [runOf_extract, Bool.eq_iff_iff]
  simp only [decide_eq_true_eq, ByteArray.size_extract]
  omega
end Go.Proofs.YtbiacjkkgddclaaGreat
namespace Go.Proofs.YtbiacjkkgddclaaGreat
open Go.RowKit Go.Shelf

theorem ret_eqb {a b : Bool} (h : a = b) : Value.bool a = .bool b := by rw [h]
noncomputable def addressC : Code := Tryz.f115.body.getD .skip
noncomputable def address11C : Code := fromRegion 11 addressC
noncomputable def address6C : Code := fromRegion 6 addressC
noncomputable def address4C : Code := fromRegion 4 addressC
theorem address6_11 : fromRegion 11 address6C = address11C := by kernel_rfl
theorem address4_6 : fromRegion 6 address4C = address6C := by kernel_rfl

set_option maxRecDepth 100000 in
set_option maxHeartbeats 2000000 in
theorem addr11 (u1 u2 u3 u5 u6 u7 u8 u9 u10 u11 u12 u13 u14 u15 u16 u17 u18 u19 u20 u21 u22 u23 u24 u25 u26 u27 u28 u29 u30 u31 u32 u33 u34 u35 u36 u37 u38 u39 u40 u41 u42 u43 u44 u45 u46 u47 u48 u49 u50 u51 u52 u53 u54 u55 u56 u57 u58 u59 u60 u61 u62 u63 u64 u65 u66 u67 u68 u69 u70 u71 u72 u73 u74 u75 u76 u77 u78 u79 u80 u81 u82 u83 u84 u85 u86 : Value) (s : ByteArray) (hs : s.size ≤ 9223372036854775807) (i : Nat) (hi : i ≤ s.size) (w : World) :
    Code.wp Tryz.prog address11C (RetSlot 2 (.bool (decide (seenStep 67 s i = s.size))) w) ⟨#[.string s, u1, u2, u3, .int .i64 (i : Nat), u5, u6, u7, u8, u9, u10, u11, u12, u13, u14, u15, u16, u17, u18, u19, u20, u21, u22, u23, u24, u25, u26, u27, u28, u29, u30, u31, u32, u33, u34, u35, u36, u37, u38, u39, u40, u41, u42, u43, u44, u45, u46, u47, u48, u49, u50, u51, u52, u53, u54, u55, u56, u57, u58, u59, u60, u61, u62, u63, u64, u65, u66, u67, u68, u69, u70, u71, u72, u73, u74, u75, u76, u77, u78, u79, u80, u81, u82, u83, u84, u85, u86], []⟩ w := by
  dsimp only
  conv => arg 2; whnf
  have hse : seenStep 67 s i = if i < s.size ∧ (s.data.toList.getD i 0).toNat = 67 then i + 1 + runOf isDig s (i + 1) else i := rfl
  by_cases hlt0 : i < s.size
  · rw [getD_at s i hlt0] at hse
    have hbl0 := s[i].toNat_lt
    by_cases hc : s[i].toNat = 67
    · rw [if_pos ⟨hlt0, hc⟩] at hse
      have q : ((s[i].toNat : Int) == 67) = true := by simp; omega
      have HSE := Lib.hid hse
      clear hse hc
      go_wp2
      go_loop [4] (fun v => ∃ j : Nat, j ≤ s.size ∧ v = .int .i64 j ∧ Hid (j + runOf isDig s j = i + 1 + runOf isDig s (i + 1))) (fun v => s.size - (intOf v).toNat)
      case atStart => exact ⟨i + 1, by omega, by go_num, by show _ = _; rfl⟩
      case round =>
        obtain ⟨j, hj, rfl, hsc⟩ := hrel
        by_cases hlt : j < s.size
        · have hD := fun w => digit_any s[j] w
          have hbl := s[j].toNat_lt
          by_cases hi2 : isDig s[j] = true
          · have hst : Hid (j + 1 + runOf isDig s (j + 1) = i + 1 + runOf isDig s (i + 1)) := by show _ = _; have := hsc.out; rw [runOf_step _ s j hlt hi2] at this; omega
            rw [hi2] at hD
            have HD := Lib.hid hD
            clear hi2 hsc hD
            go_wp2_with (go_at_call 113; refine (HD.out _).mono ?_; rintro e w' ⟨rfl, rfl⟩)
            go_round
            case rel => exact ⟨j + 1, by omega, by go_num, hst⟩
            case measure => simp [intOf]; omega
          · have hi3 : isDig s[j] = false := by simpa using hi2
            have hst : Hid (j = i + 1 + runOf isDig s (i + 1)) := by show _ = _; have := hsc.out; rw [runOf_stop _ s j (fun _ => hi3)] at this; omega
            rw [hi3] at hD
            have HD := Lib.hid hD
            clear hi2 hi3 hsc hD
            go_wp2_with (go_at_call 113; refine (HD.out _).mono ?_; rintro e w' ⟨rfl, rfl⟩)
            refine ⟨rfl, rfl, ?_, Below.refl _ _⟩
            have h1 := hst.out
            have h2 := HSE.out
            refine ret_eqb ?_
            rw [h2, ← h1, Bool.eq_iff_iff]
            first | (simp; done) | (simp; omega)
        · have hst : Hid (j = i + 1 + runOf isDig s (i + 1)) := by show _ = _; have := hsc.out; rw [runOf_stop _ s j (fun h => absurd h hlt)] at this; omega
          clear hsc
          go_wp2
          refine ⟨rfl, rfl, ?_, Below.refl _ _⟩
          have h1 := hst.out
          have h2 := HSE.out
          refine ret_eqb ?_
          rw [h2, ← h1, Bool.eq_iff_iff]
          first | (simp; done) | (simp; omega)
    · rw [if_neg (fun h => hc h.2)] at hse
      have q : ((s[i].toNat : Int) == 67) = false := by simp; omega
      have HSE := Lib.hid hse
      clear hse hc
      go_wp2
      refine ⟨rfl, rfl, ?_, Below.refl _ _⟩
      refine ret_eqb ?_
      rw [HSE.out, Bool.eq_iff_iff]; first | (simp; done) | (simp; omega)
  · rw [if_neg (fun h => hlt0 h.1)] at hse
    have HSE := Lib.hid hse
    clear hse
    go_wp2
    refine ⟨rfl, rfl, ?_, Below.refl _ _⟩
    refine ret_eqb ?_
    rw [HSE.out, Bool.eq_iff_iff]; first | (simp; done) | (simp; omega)

set_option maxRecDepth 100000 in
set_option maxHeartbeats 2000000 in
theorem addr6 (u1 u2 u3 u4 u5 u6 u7 u8 u9 u10 u11 u12 u13 u14 u15 u16 u17 u18 u19 u20 u21 u22 u23 u24 u25 u26 u27 u28 u29 u30 u31 u32 u33 u34 u35 u36 u37 u38 u39 u40 u41 u42 u43 u44 u45 u46 u47 u48 u49 u50 u51 u52 u53 u54 u55 u56 u57 u58 u59 u60 u61 u62 u63 u64 u65 u66 u67 u68 u69 u70 u71 u72 u73 u74 u75 u76 u77 u78 u79 u80 u81 u82 u83 u84 u85 u86 : Value) (s : ByteArray) (hs : s.size ≤ 9223372036854775807) (w : World) :
    Code.wp Tryz.prog address6C (RetSlot 2 (.bool (isSeenB s)) w) ⟨#[.string s, u1, u2, u3, u4, u5, u6, u7, u8, u9, u10, u11, u12, u13, u14, u15, u16, u17, u18, u19, u20, u21, u22, u23, u24, u25, u26, u27, u28, u29, u30, u31, u32, u33, u34, u35, u36, u37, u38, u39, u40, u41, u42, u43, u44, u45, u46, u47, u48, u49, u50, u51, u52, u53, u54, u55, u56, u57, u58, u59, u60, u61, u62, u63, u64, u65, u66, u67, u68, u69, u70, u71, u72, u73, u74, u75, u76, u77, u78, u79, u80, u81, u82, u83, u84, u85, u86], []⟩ w := by
  dsimp only
  have e11 := cut_from 11 address6C
  rw [address6_11] at e11
  obtain ⟨C, hC⟩ : ∃ C, C = address11C := ⟨_, rfl⟩
  rw [← hC] at e11
  have HC := Lib.hid hC
  clear hC
  rw [← e11]
  clear e11
  conv => arg 2; whnf; arg 2; whnf; arg 2; whnf
  have hfin : ∀ j, j = seenStep 82 s 0 → isSeenB s = decide (seenStep 67 s j = s.size) := fun j h => by rw [h]; rfl
  have hse : seenStep 82 s 0 = if 0 < s.size ∧ (s.data.toList.getD 0 0).toNat = 82 then 0 + 1 + runOf isDig s (0 + 1) else 0 := rfl
  have HFIN := Lib.hid hfin
  clear hfin
  by_cases hlt0 : 0 < s.size
  · rw [getD_at s 0 hlt0] at hse
    have hbl0 := s[0].toNat_lt
    by_cases hc : s[0].toNat = 82
    · rw [if_pos ⟨hlt0, hc⟩] at hse
      have q : ((s[0].toNat : Int) == 82) = true := by simp; omega
      have HSE := Lib.hid hse
      clear hse hc
      go_wp2
      go_loop [4] (fun v => ∃ j : Nat, j ≤ s.size ∧ v = .int .i64 j ∧ Hid (j + runOf isDig s j = 0 + 1 + runOf isDig s (0 + 1))) (fun v => s.size - (intOf v).toNat)
      case atStart => exact ⟨0 + 1, by omega, by go_num, by show _ = _; rfl⟩
      case round =>
        obtain ⟨j, hj, rfl, hsc⟩ := hrel
        by_cases hlt : j < s.size
        · have hD := fun w => digit_any s[j] w
          have hbl := s[j].toNat_lt
          by_cases hi2 : isDig s[j] = true
          · have hst : Hid (j + 1 + runOf isDig s (j + 1) = 0 + 1 + runOf isDig s (0 + 1)) := by show _ = _; have := hsc.out; rw [runOf_step _ s j hlt hi2] at this; omega
            rw [hi2] at hD
            have HD := Lib.hid hD
            clear hi2 hsc hD
            go_wp2_with (go_at_call 113; refine (HD.out _).mono ?_; rintro e w' ⟨rfl, rfl⟩)
            go_round
            case rel => exact ⟨j + 1, by omega, by go_num, hst⟩
            case measure => simp [intOf]; omega
          · have hi3 : isDig s[j] = false := by simpa using hi2
            have hst : Hid (j = 0 + 1 + runOf isDig s (0 + 1)) := by show _ = _; have := hsc.out; rw [runOf_stop _ s j (fun _ => hi3)] at this; omega
            rw [hi3] at hD
            have HD := Lib.hid hD
            clear hi2 hi3 hsc hD
            go_wp2_with (go_at_call 113; refine (HD.out _).mono ?_; rintro e w' ⟨rfl, rfl⟩)
            refine Code.wp_mono (Q := RetSlot 2 (.bool (decide (seenStep 67 s j = s.size))) w) ?_ ?_
            · intro e a w' h
              rw [HFIN.out j (by rw [HSE.out, ← hst.out])]; exact h
            rw [HC.out]
            exact addr11 _ _ _ _ _ _ _ _ _ _ _ _ _ _ _ _ _ _ _ _ _ _ _ _ _ _ _ _ _ _ _ _ _ _ _ _ _ _ _ _ _ _ _ _ _ _ _ _ _ _ _ _ _ _ _ _ _ _ _ _ _ _ _ _ _ _ _ _ _ _ _ _ _ _ _ _ _ _ _ _ _ _ _ _ _ s hs j hj w
        · have hst : Hid (j = 0 + 1 + runOf isDig s (0 + 1)) := by show _ = _; have := hsc.out; rw [runOf_stop _ s j (fun h => absurd h hlt)] at this; omega
          clear hsc
          go_wp2
          refine Code.wp_mono (Q := RetSlot 2 (.bool (decide (seenStep 67 s j = s.size))) w) ?_ ?_
          · intro e a w' h
            rw [HFIN.out j (by rw [HSE.out, ← hst.out])]; exact h
          rw [HC.out]
          exact addr11 _ _ _ _ _ _ _ _ _ _ _ _ _ _ _ _ _ _ _ _ _ _ _ _ _ _ _ _ _ _ _ _ _ _ _ _ _ _ _ _ _ _ _ _ _ _ _ _ _ _ _ _ _ _ _ _ _ _ _ _ _ _ _ _ _ _ _ _ _ _ _ _ _ _ _ _ _ _ _ _ _ _ _ _ _ s hs j hj w
    · rw [if_neg (fun h => hc h.2)] at hse
      have q : ((s[0].toNat : Int) == 82) = false := by simp; omega
      have HSE := Lib.hid hse
      clear hse hc
      go_wp2
      refine Code.wp_mono (Q := RetSlot 2 (.bool (decide (seenStep 67 s 0 = s.size))) w) ?_ ?_
      · intro e a w' h
        rw [HFIN.out 0 HSE.out.symm]; exact h
      rw [HC.out]
      exact addr11 _ _ _ _ _ _ _ _ _ _ _ _ _ _ _ _ _ _ _ _ _ _ _ _ _ _ _ _ _ _ _ _ _ _ _ _ _ _ _ _ _ _ _ _ _ _ _ _ _ _ _ _ _ _ _ _ _ _ _ _ _ _ _ _ _ _ _ _ _ _ _ _ _ _ _ _ _ _ _ _ _ _ _ _ _ s hs 0 (Nat.zero_le _) w
  · rw [if_neg (fun h => hlt0 h.1)] at hse
    have hii : s.size = 0 := by omega
    have HSE := Lib.hid hse
    clear hse
    go_wp2
    refine Code.wp_mono (Q := RetSlot 2 (.bool (decide (seenStep 67 s 0 = s.size))) w) ?_ ?_
    · intro e a w' h
      rw [HFIN.out 0 HSE.out.symm]; exact h
    rw [HC.out]
    exact addr11 _ _ _ _ _ _ _ _ _ _ _ _ _ _ _ _ _ _ _ _ _ _ _ _ _ _ _ _ _ _ _ _ _ _ _ _ _ _ _ _ _ _ _ _ _ _ _ _ _ _ _ _ _ _ _ _ _ _ _ _ _ _ _ _ _ _ _ _ _ _ _ _ _ _ _ _ _ _ _ _ _ _ _ _ _ s hs 0 (Nat.zero_le _) w

theorem addr_of {s : ByteArray} {k : Nat} (_hk : k ≤ s.size) (hkc : k = runOf isCap s 0) : addrB s = decide (1 ≤ k ∧ k ≤ 3 ∧ k < s.size ∧ k + runOf isDig s k = s.size) := by
  unfold addrB
  rw [← hkc, Bool.eq_iff_iff]
  simp only [decide_eq_true_eq]
  omega
set_option maxRecDepth 100000 in
set_option maxHeartbeats 2000000 in
theorem addr4 (u1 u2 u4 u5 u6 u7 u8 u9 u10 u11 u12 u13 u14 u15 u16 u17 u18 u19 u20 u21 u22 u23 u24 u25 u26 u27 u28 u29 u30 u31 u32 u33 u34 u35 u36 u37 u38 u39 u40 u41 u42 u43 u44 u45 u46 u47 u48 u49 u50 u51 u52 u53 u54 u55 u56 u57 u58 u59 u60 u61 u62 u63 u64 u65 u66 u67 u68 u69 u70 u71 u72 u73 u74 u75 u76 u77 u78 u79 u80 u81 u82 u83 u84 u85 u86 : Value) (s : ByteArray) (hs : s.size ≤ 9223372036854775807) (k : Nat) (hk : k ≤ s.size) (hkc : k = runOf isCap s 0) (w : World) :
    Code.wp Tryz.prog address4C (RetSlot 2 (.bool (addrB s || isSeenB s)) w) ⟨#[.string s, u1, u2, .int .i64 (k : Nat), u4, u5, u6, u7, u8, u9, u10, u11, u12, u13, u14, u15, u16, u17, u18, u19, u20, u21, u22, u23, u24, u25, u26, u27, u28, u29, u30, u31, u32, u33, u34, u35, u36, u37, u38, u39, u40, u41, u42, u43, u44, u45, u46, u47, u48, u49, u50, u51, u52, u53, u54, u55, u56, u57, u58, u59, u60, u61, u62, u63, u64, u65, u66, u67, u68, u69, u70, u71, u72, u73, u74, u75, u76, u77, u78, u79, u80, u81, u82, u83, u84, u85, u86], []⟩ w := by
  dsimp only
  have e6 := cut_from 6 address4C
  rw [address4_6] at e6
  obtain ⟨C, hC⟩ : ∃ C, C = address6C := ⟨_, rfl⟩
  rw [← hC] at e6
  have HC := Lib.hid hC
  clear hC
  rw [← e6]
  clear e6
  conv => arg 2; whnf; arg 2; whnf
  have hA := addr_of hk hkc
  have hdg := fun w => rdigits_any (s.extract k s.size) (by simp; omega) w
  rw [digits_from s k hk] at hdg
  have HA := Lib.hid hA
  clear hA hkc
  by_cases c1 : 1 ≤ k
  case neg =>
    have q : Hid (addrB s = false) := Lib.hid (by rw [HA.out]; simp; omega)
    have k0 : k = 0 := by omega
    clear hdg HA
    subst k0
    go_wp2
    refine Code.wp_mono (Q := RetSlot 2 (.bool (isSeenB s)) w) ?_ ?_
    · intro e a w' h
      rw [q.out, Bool.false_or]; exact h
    rw [HC.out]
    exact addr6 _ _ _ _ _ _ _ _ _ _ _ _ _ _ _ _ _ _ _ _ _ _ _ _ _ _ _ _ _ _ _ _ _ _ _ _ _ _ _ _ _ _ _ _ _ _ _ _ _ _ _ _ _ _ _ _ _ _ _ _ _ _ _ _ _ _ _ _ _ _ _ _ _ _ _ _ _ _ _ _ _ _ _ _ _ _ s hs w
  by_cases c2 : k ≤ 3
  case neg =>
    have q : Hid (addrB s = false) := Lib.hid (by rw [HA.out]; simp; omega)
    clear hdg HA
    go_wp2
    refine Code.wp_mono (Q := RetSlot 2 (.bool (isSeenB s)) w) ?_ ?_
    · intro e a w' h
      rw [q.out, Bool.false_or]; exact h
    rw [HC.out]
    exact addr6 _ _ _ _ _ _ _ _ _ _ _ _ _ _ _ _ _ _ _ _ _ _ _ _ _ _ _ _ _ _ _ _ _ _ _ _ _ _ _ _ _ _ _ _ _ _ _ _ _ _ _ _ _ _ _ _ _ _ _ _ _ _ _ _ _ _ _ _ _ _ _ _ _ _ _ _ _ _ _ _ _ _ _ _ _ _ s hs w
  by_cases c3 : k < s.size
  case neg =>
    have q : Hid (addrB s = false) := Lib.hid (by rw [HA.out]; simp; omega)
    clear hdg HA
    go_wp2
    refine Code.wp_mono (Q := RetSlot 2 (.bool (isSeenB s)) w) ?_ ?_
    · intro e a w' h
      rw [q.out, Bool.false_or]; exact h
    rw [HC.out]
    exact addr6 _ _ _ _ _ _ _ _ _ _ _ _ _ _ _ _ _ _ _ _ _ _ _ _ _ _ _ _ _ _ _ _ _ _ _ _ _ _ _ _ _ _ _ _ _ _ _ _ _ _ _ _ _ _ _ _ _ _ _ _ _ _ _ _ _ _ _ _ _ _ _ _ _ _ _ _ _ _ _ _ _ _ _ _ _ _ s hs w
  by_cases c4 : k + runOf isDig s k = s.size
  case neg =>
    have q : Hid (addrB s = false) := Lib.hid (by rw [HA.out]; simp; omega)
    rw [decide_eq_false c4] at hdg
    have HD := Lib.hid hdg
    clear hdg HA c4
    go_wp2_with (go_at_call 121; refine (HD.out _).mono ?_; rintro e w' ⟨rfl, rfl⟩)
    refine Code.wp_mono (Q := RetSlot 2 (.bool (isSeenB s)) w) ?_ ?_
    · intro e a w' h
      rw [q.out, Bool.false_or]; exact h
    rw [HC.out]
    exact addr6 _ _ _ _ _ _ _ _ _ _ _ _ _ _ _ _ _ _ _ _ _ _ _ _ _ _ _ _ _ _ _ _ _ _ _ _ _ _ _ _ _ _ _ _ _ _ _ _ _ _ _ _ _ _ _ _ _ _ _ _ _ _ _ _ _ _ _ _ _ _ _ _ _ _ _ _ _ _ _ _ _ _ _ _ _ _ s hs w
  have q : Hid (addrB s = true) := Lib.hid (by rw [HA.out]; simp; omega)
  rw [decide_eq_true c4] at hdg
  have HD := Lib.hid hdg
  clear hdg HA c4
  go_wp2_with (go_at_call 121; refine (HD.out _).mono ?_; rintro e w' ⟨rfl, rfl⟩)
  exact ⟨rfl, rfl, by rw [q.out]; rfl, Below.refl _ _⟩

set_option maxRecDepth 100000 in
set_option maxHeartbeats 2000000 in
theorem raddress_any (s : ByteArray) (hs : s.size ≤ 9223372036854775807) (w : World) : Calls Tryz.prog 115 #[.string s] w fun e w' => e = .returned (.bool (addrB s || isSeenB s)) ∧ Below w.heap.size w w' := by
  go_enter Tryz.func115, Tryz.ntmps115
  have e4 := cut_from 4 addressC
  obtain ⟨C, hC⟩ : ∃ C, C = fromRegion 4 addressC := ⟨_, rfl⟩
  rw [← hC] at e4
  have HC := Lib.hid hC
  clear hC
  change Code.wp Tryz.prog addressC _ _ _
  rw [← e4]
  clear e4
  conv => arg 2; whnf; arg 2; whnf; arg 2; whnf; arg 2; whnf
  refine Code.wp_mono (Q := RetSlot 2 (.bool (addrB s || isSeenB s)) w) ?_ ?_
  · rintro e a w' ⟨rfl, hd', h2, hb⟩
    refine bodyPost_ret (results_tmp rfl _ _ _) hd' ?_
    rw [h2]
    exact ⟨rfl, hb⟩
  go_wp2
  go_loop [3] (fun i => ∃ k : Nat, k ≤ s.size ∧ i = .int .i64 k ∧ Hid (k + runOf isCap s k = runOf isCap s 0)) (fun i => s.size - (intOf i).toNat)
  case atStart => exact ⟨0, by omega, rfl, by show _ = _; omega⟩
  case round =>
    obtain ⟨k, hk, rfl, hsc⟩ := hrel
    by_cases hlt : k < s.size
    · have hL := fun w => letter_any s[k] w
      have hbl := s[k].toNat_lt
      by_cases hi : isCap s[k] = true
      · have hst : Hid (k + 1 + runOf isCap s (k + 1) = runOf isCap s 0) := by show _ = _; have := hsc.out; rw [runOf_step _ s k hlt hi] at this; omega
        rw [hi] at hL
        have HL := Lib.hid hL
        clear hi hsc hL
        go_wp2_with (go_at_call 112; refine (HL.out _).mono ?_; rintro e w' ⟨rfl, rfl⟩)
        go_round
        case rel => exact ⟨k + 1, by omega, by go_num, hst⟩
        case measure => simp [intOf]; omega
      · have hi' : isCap s[k] = false := by simpa using hi
        have hst : Hid (k = runOf isCap s 0) := by show _ = _; have := hsc.out; rw [runOf_stop _ s k (fun _ => hi')] at this; omega
        rw [hi'] at hL
        have HL := Lib.hid hL
        clear hi hi' hsc hL
        go_wp2_with (go_at_call 112; refine (HL.out _).mono ?_; rintro e w' ⟨rfl, rfl⟩)
        rw [HC.out]
        exact addr4 _ _ _ _ _ _ _ _ _ _ _ _ _ _ _ _ _ _ _ _ _ _ _ _ _ _ _ _ _ _ _ _ _ _ _ _ _ _ _ _ _ _ _ _ _ _ _ _ _ _ _ _ _ _ _ _ _ _ _ _ _ _ _ _ _ _ _ _ _ _ _ _ _ _ _ _ _ _ _ _ _ _ _ _ _ s hs k hk hst.out w
    · have hst : Hid (k = runOf isCap s 0) := by show _ = _; have := hsc.out; rw [runOf_stop _ s k (fun h => absurd h hlt)] at this; omega
      clear hsc
      go_wp2
      rw [HC.out]
      exact addr4 _ _ _ _ _ _ _ _ _ _ _ _ _ _ _ _ _ _ _ _ _ _ _ _ _ _ _ _ _ _ _ _ _ _ _ _ _ _ _ _ _ _ _ _ _ _ _ _ _ _ _ _ _ _ _ _ _ _ _ _ _ _ _ _ _ _ _ _ _ _ _ _ _ _ _ _ _ _ _ _ _ _ _ _ _ s hs k hk hst.out w
end Go.Proofs.YtbiacjkkgddclaaGreat
