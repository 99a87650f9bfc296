/- counterpaneref06.own, a kind at a time. -/
import Derived.Test.YtbiacjkkgddclaaGreatXsFhTz0Cu
import Derived.Test.YtbiacjkkgddclaaGreatFdFh0Fb
import Derived.Test.YtbiacjkkgddclaaGreatFh1FaFc
import Derived.Test.YtbiacjkkgddclaaGreatStSq
import Derived.Test.YtbiacjkkgddclaaGreatCdRrRz
import Derived.Test.YtbiacjkkgddclaaGreatNwXc0PyPmPn
namespace Go.Proofs.YtbiacjkkgddclaaGreat
open Go.RowKit Go.Shelf

theorem own_sameF (w : World) (d d' : ND) (l : List Tr) (A : Option Addr) (c : Nat) (hd : d.ok) (hd' : d'.ok) (hs : SlAt w w.heap.size A c l) : ∀ wx, Below w.heap.size w wx → Calls Tryz.prog 40 #[nodeV d' A l.length c, nodeV d A l.length c] wx fun e w' => e = .returned (.bool (decide (d' = d))) ∧ Below wx.heap.size wx w' := by
  intro wx hx
  have := rsame_c (.mk d' l) (.mk d l) wx w.heap.size A A c c hd' (hs.below hx) hd (hs.below hx) hx.size
  have e : sameB (.mk d' l) (.mk d l) = decide (d' = d) := by
    have h := (sameB_eq (.mk d l) (.mk d l)).2 rfl
    simp only [sameB, Bool.and_eq_true] at h
    simp only [sameB, h.2, Bool.and_true]
  rw [e] at this
  exact this
theorem calls_below {P : Program} {f : FuncId} {args : Array Value} {w : World} {e0 : Ending} (h : Calls P f args w fun e w' => e = e0 ∧ w = w') : Calls P f args w fun e w' => e = e0 ∧ Below w.heap.size w w' := h.mono fun _ _ h => ⟨h.1, by rw [← h.2]; exact Below.refl _ _⟩
theorem toList_mk (l : List UInt8) : (ByteArray.mk l.toArray).toList = l := by rw [ByteArray.toList_eq]
theorem rin_unary (s : ByteArray) (g : Nat) (w : World) (hg : w.heap[g]? = some (.cells #[.string ⟨#[45]⟩, .string ⟨#[43]⟩, .string ⟨#[37]⟩] 9)) :
    Calls Tryz.prog 93 #[.string s, .slice (some ⟨g, 0, none⟩) 3 3] w fun e w' => e = .returned (.bool (unaryB s)) ∧ Below w.heap.size w w' := by
  refine (rin_any s [⟨#[45]⟩, ⟨#[43]⟩, ⟨#[37]⟩] g 9 (0, 0) w (by decide) hg).mono ?_
  rintro e w' ⟨rfl, rfl⟩
  refine ⟨ret_bool ?_, Below.refl _ _⟩
  unfold unaryB
  simp only [List.any_cons, List.any_nil, Bool.or_false]
  have t : ∀ l : List UInt8, ((ByteArray.mk l.toArray).toList == s.toList) = (s.toList == l) := fun l => by rw [toList_mk, Bool.eq_iff_iff, beq_iff_eq, beq_iff_eq]; exact eq_comm
  rw [show ((ByteArray.mk #[45]).toList == s.toList) = _ from t [45], show ((ByteArray.mk #[43]).toList == s.toList) = _ from t [43], show ((ByteArray.mk #[37]).toList == s.toList) = _ from t [37]]
  simp only [Bool.or_assoc]
theorem rin_binary (s : ByteArray) (g : Nat) (w : World) (hg : w.heap[g]? = some (.cells #[.string ⟨#[43]⟩, .string ⟨#[45]⟩, .string ⟨#[42]⟩, .string ⟨#[47]⟩, .string ⟨#[94]⟩, .string ⟨#[38]⟩, .string ⟨#[61]⟩, .string ⟨#[60, 62]⟩, .string ⟨#[60]⟩, .string ⟨#[60, 61]⟩, .string ⟨#[62]⟩, .string ⟨#[62, 61]⟩] 9)) :
    Calls Tryz.prog 93 #[.string s, .slice (some ⟨g, 0, none⟩) 12 12] w fun e w' => e = .returned (.bool (binaryB s)) ∧ Below w.heap.size w w' := by
  refine (rin_any s [⟨#[43]⟩, ⟨#[45]⟩, ⟨#[42]⟩, ⟨#[47]⟩, ⟨#[94]⟩, ⟨#[38]⟩, ⟨#[61]⟩, ⟨#[60, 62]⟩, ⟨#[60]⟩, ⟨#[60, 61]⟩, ⟨#[62]⟩, ⟨#[62, 61]⟩] g 9 (0, 0) w (by decide) hg).mono ?_
  rintro e w' ⟨rfl, rfl⟩
  refine ⟨ret_bool ?_, Below.refl _ _⟩
  unfold binaryB
  simp only [List.any_cons, List.any_nil, Bool.or_false]
  have t : ∀ l : List UInt8, ((ByteArray.mk l.toArray).toList == s.toList) = (s.toList == l) := fun l => by rw [toList_mk, Bool.eq_iff_iff, beq_iff_eq, beq_iff_eq]; exact eq_comm
  rw [show ((ByteArray.mk #[43]).toList == s.toList) = _ from t [43], show ((ByteArray.mk #[45]).toList == s.toList) = _ from t [45], show ((ByteArray.mk #[42]).toList == s.toList) = _ from t [42], show ((ByteArray.mk #[47]).toList == s.toList) = _ from t [47], show ((ByteArray.mk #[94]).toList == s.toList) = _ from t [94], show ((ByteArray.mk #[38]).toList == s.toList) = _ from t [38], show ((ByteArray.mk #[61]).toList == s.toList) = _ from t [61], show ((ByteArray.mk #[60, 62]).toList == s.toList) = _ from t [60, 62], show ((ByteArray.mk #[60]).toList == s.toList) = _ from t [60], show ((ByteArray.mk #[60, 61]).toList == s.toList) = _ from t [60, 61], show ((ByteArray.mk #[62]).toList == s.toList) = _ from t [62], show ((ByteArray.mk #[62, 61]).toList == s.toList) = _ from t [62, 61]]
  simp only [Bool.or_assoc]

noncomputable def ownC : Code := Tryz.f67.body.getD .skip
noncomputable def own31C : Code := fromRegion 31 ownC
set_option maxRecDepth 100000 in
set_option maxHeartbeats 4000000 in
theorem own31 (u0 u2 u5 u6 u7 u8 u9 u10 u11 u12 u13 u14 u15 u16 u17 u18 u19 u20 u21 u22 u23 u24 u25 u26 u27 u28 u29 u30 u31 u32 u33 u34 u35 u36 u37 u38 u39 u40 u41 u42 u43 u44 u45 u46 u47 u48 u49 u50 u51 u52 u53 u54 u55 u56 u57 u58 u59 u60 u61 u62 u63 u64 u65 u66 u67 u68 u69 u70 u71 u72 u73 u74 u75 u76 u77 u78 u79 u80 u81 u82 u83 u84 u85 u86 u87 u88 u89 u90 u91 u92 u93 u94 u95 u96 u97 u98 u99 u100 u101 u102 u103 u104 u105 u106 u107 u108 u109 u110 u111 u112 u113 u114 u115 u116 u117 u118 u119 u120 u121 u122 u123 u124 u125 u126 u127 u128 u129 u130 u131 u132 u133 u134 u135 u136 u137 u138 u139 u140 u141 u142 u143 u144 u145 u146 u147 u148 u149 u150 u151 u152 u153 u154 u155 u156 u157 u158 u159 u160 u161 u162 u163 u164 u165 u166 u167 u168 : Value) (W : World) (N M : Array Value) (g : Nat) (ok r : Bool) (hN : W.heap[g]? = some (.cells N 35)) (hM : W.heap[g + 1]? = some (.cells M 35)) (hNs : N.size = 22) (hMs : M.size = 22)
    (hS : Calls Tryz.prog 40 #[.agg M, .agg N] W fun e w' => e = .returned (.bool r) ∧ Below W.heap.size W w') :
    Code.wp Tryz.prog own31C (RetSlot 2 (.bool (ok && r)) W) ⟨#[u0, .pointer (some ⟨g, 0, none⟩), u2, .pointer (some ⟨g + 1, 0, none⟩), .bool ok, u5, u6, u7, u8, u9, u10, u11, u12, u13, u14, u15, u16, u17, u18, u19, u20, u21, u22, u23, u24, u25, u26, u27, u28, u29, u30, u31, u32, u33, u34, u35, u36, u37, u38, u39, u40, u41, u42, u43, u44, u45, u46, u47, u48, u49, u50, u51, u52, u53, u54, u55, u56, u57, u58, u59, u60, u61, u62, u63, u64, u65, u66, u67, u68, u69, u70, u71, u72, u73, u74, u75, u76, u77, u78, u79, u80, u81, u82, u83, u84, u85, u86, u87, u88, u89, u90, u91, u92, u93, u94, u95, u96, u97, u98, u99, u100, u101, u102, u103, u104, u105, u106, u107, u108, u109, u110, u111, u112, u113, u114, u115, u116, u117, u118, u119, u120, u121, u122, u123, u124, u125, u126, u127, u128, u129, u130, u131, u132, u133, u134, u135, u136, u137, u138, u139, u140, u141, u142, u143, u144, u145, u146, u147, u148, u149, u150, u151, u152, u153, u154, u155, u156, u157, u158, u159, u160, u161, u162, u163, u164, u165, u166, u167, u168], []⟩ W := by
  dsimp only
  conv => arg 2; whnf
  have hinf := infN
  rw [← hNs] at hinf
  have hinf' := infN
  rw [← hMs] at hinf'
  have HS := Lib.hid hS
  have HIN := Lib.hid hinf
  have HIM := Lib.hid hinf'
  clear hS hNs hMs hinf hinf'
  cases ok
  · go_wp2
    exact ⟨rfl, rfl, rfl, Below.refl _ _⟩
  · go_wp2_with (first | (refine wpList_row rfl 35 _ rfl (g + 1) rfl 35 M (0, 0) _ hM undN rfl HIM.out ?_) | (refine wpList_row rfl 35 _ rfl g rfl 35 N (0, 0) _ hN undN rfl HIN.out ?_) | (go_at_call 40; refine HS.out.mono ?_; rintro e w3 ⟨rfl, hbe3⟩))
    exact ⟨rfl, rfl, rfl, hbe3⟩
theorem own_fin {w W : World} {b : Bool} (hb : Below w.heap.size w W) : ∀ (e : Exit) (a' : Act) (w' : World), RetSlot 2 (.bool b) W e a' w' → bodyPost Tryz.prog Tryz.f67 (fun e w' => e = .returned (.bool b) ∧ Below w.heap.size w w') e a' w' := by
  rintro e a' w' ⟨rfl, hd', h2, hb'⟩
  refine bodyPost_ret (results_tmp rfl _ _ _) hd' ?_
  rw [h2]
  exact ⟨rfl, hb.trans (hb'.mono hb.size)⟩

set_option maxRecDepth 100000 in
set_option maxHeartbeats 4000000 in
theorem rown0 (w : World) (v : Vl) (name : ByteArray) (a q : Cn) (rows : Int) (A : Option Addr) (n c : Nat) (r : Bool) (hd : ND.ok ⟨0, v, name, a, q, rows⟩)
    (hS : ∀ wx, Below w.heap.size w wx → Calls Tryz.prog 40 #[nodeV { zeroND with v := v, kind := 0 } A n c, nodeV ⟨0, v, name, a, q, rows⟩ A n c] wx fun e w' => e = .returned (.bool r) ∧ Below wx.heap.size wx w') :
    Calls Tryz.prog 67 #[nodeV ⟨0, v, name, a, q, rows⟩ A n c] w fun e w' => e = .returned (.bool (litB v && decide (n = 0) && r)) ∧ Below w.heap.size w w' := by
  have hh := nodeA_all ⟨0, v, name, a, q, rows⟩ A n c
  obtain ⟨N, hN⟩ : ∃ N, N = nodeA ⟨0, v, name, a, q, rows⟩ A n c := ⟨_, rfl⟩
  obtain ⟨M, hM⟩ : ∃ M : Array Value, M = #[.int .i64 0, .int .i64 v.k, .int .i64 v.mant, .int .i64 v.exp, .string v.text, .bool v.truth, .int .i64 v.fault, .string ⟨#[]⟩, .int .i64 0, .int .i64 0, .int .i64 0, .int .i64 0, .bool false, .bool false, .int .i64 0, .int .i64 0, .int .i64 0, .int .i64 0, .bool false, .bool false, .int .i64 0, .slice A n c] := ⟨_, rfl⟩
  rw [← hN] at hh
  have hS' : ∀ wx, Below w.heap.size w wx → Calls Tryz.prog 40 #[.agg M, .agg N] wx fun e w' => e = .returned (.bool r) ∧ Below wx.heap.size wx w' := fun wx hx => by rw [hM, hN]; exact hS wx hx
  have hNs : N.size = 22 := by rw [hN]; rfl
  have hMs : M.size = 22 := by rw [hM]; rfl
  have hinf := infN
  rw [← hNs] at hinf
  have hinf' := infN
  rw [← hMs] at hinf'
  rw [nodeV, ← hN]
  obtain ⟨h0, h1, h2, h3, h4, h5, h6, h7, h8, h9, h10, h11, h12, h13, h14, h15, h16, h17, h18, h19, h20, h21⟩ := hh
  dsimp only at h0 h1 h2 h3 h4 h5 h6 h7 h8 h9 h10 h11 h12 h13 h14 h15 h16 h17 h18 h19 h20 h21
  obtain ⟨W, hW⟩ : ∃ W, W = (w.alloc (.cells N 35)).alloc (.cells M 35) := ⟨_, rfl⟩
  have hbW : Below w.heap.size w W := by rw [hW]; exact ((Below.refl _ w).alloc (Nat.le_refl _) _).alloc (by simp) _
  have hszW : w.heap.size + 2 = W.heap.size := by rw [hW]; simp
  have hkN : W.heap[w.heap.size]? = some (.cells N 35) := by rw [hW]; exact (heapOld _ _ _ (by simp)).trans (heap_alloc_new _ _)
  have hkM : W.heap[w.heap.size + 1]? = some (.cells M 35) := by
    rw [hW]; exact heap_new1 w _ _
  have hc21 : W.cell? ⟨w.heap.size, 21, none⟩ = some (.slice A n c) := by rw [Lib.cell_of_heap hkN]; exact h21
  have haft : ∀ w2, Below W.heap.size W w2 → Below w.heap.size w w2 ∧ w2.heap[w.heap.size]? = some (.cells N 35) ∧ w2.heap[w.heap.size + 1]? = some (.cells M 35) ∧ w2.cell? ⟨w.heap.size, 21, none⟩ = some (.slice A n c) := fun w2 h2 =>
    ⟨hbW.trans (h2.mono (by omega)), (h2.block _ (by omega)).trans hkN, (h2.block _ (by omega)).trans hkM, (h2.cell (p := ⟨w.heap.size, 21, none⟩) (by show w.heap.size < _; omega)).trans hc21⟩
  have HS := Lib.hid hS'
  have HIN := Lib.hid hinf
  have HIM := Lib.hid hinf'
  have HW := Lib.hid (hM ▸ hW : W = (w.alloc (.cells N 35)).alloc (.cells (#[.int .i64 0, .int .i64 v.k, .int .i64 v.mant, .int .i64 v.exp, .string v.text, .bool v.truth, .int .i64 v.fault, .string ⟨#[]⟩, .int .i64 0, .int .i64 0, .int .i64 0, .int .i64 0, .bool false, .bool false, .int .i64 0, .int .i64 0, .int .i64 0, .int .i64 0, .bool false, .bool false, .int .i64 0, .slice A n c]) 35))
  have HA := Lib.hid haft
  have HD := Lib.hid hd
  have HSZ := Lib.hid hszW
  clear hS hS' hN hM hNs hMs hinf hinf' hW haft hd hszW hkN hkM hc21 hbW
  have hL := fun w => rliteral_any v HD.out.2.1 w
  dsimp only [Vl.arr] at hL
  obtain ⟨r1, hr1⟩ : ∃ r1, litB v = r1 := ⟨_, rfl⟩
  rw [hr1] at hL ⊢
  have HL := Lib.hid hL
  clear hL hr1
  go_enter Tryz.func67, Tryz.ntmps67
  go_wp2_with (first | (refine wpList_nodeVar rfl rfl (w.heap.size + 1) (by simp) ?_) | (refine wpList_storeFresh (w := w.alloc (.cells N 35)) rfl _ _ _ rfl (w.heap.size + 1) (World.size_alloc _ _) _ rfl rfl infN rfl (by simp [Value.oneCell']) ?_) | fail)
  rw [← HW.out]
  refine (HL.out _).mono ?_
  rintro e w2 ⟨rfl, hbe⟩
  obtain ⟨hb2, hN2, hM2, hc2⟩ := HA.out w2 hbe
  have HB2 := Lib.hid hb2
  clear hbe hb2
  cases r1
  · as_aux_lemma =>
    go_wp2
    go_ret
    exact ⟨ret_bool (by rfl), HB2.out⟩
  by_cases c1 : n = 0
  · subst c1
    as_aux_lemma =>
    go_wp2_with (first | (refine wpList_row rfl 35 _ rfl (w.heap.size + 1) rfl 35 M (0, 0) _ hM2 undN rfl HIM.out ?_) | (refine wpList_row rfl 35 _ rfl w.heap.size rfl 35 N (0, 0) _ hN2 undN rfl HIN.out ?_) | (go_at_call 40; refine (HS.out _ HB2.out).mono ?_; rintro e w3 ⟨rfl, hbe3⟩))
    go_ret
    exact ⟨ret_bool (by simp), HB2.out.trans (hbe3.mono HB2.out.size)⟩
  · have q1 : ((n : Int) == 0) = false := by rw [beq_eq_false_iff_ne]; omega
    have q2 : decide (n = 0) = false := by simp [c1]
    have q3 : decide ((n : Int) = 0) = false := by rw [decide_eq_false_iff_not]; omega
    have q4 : (n == 0) = false := by rw [beq_eq_false_iff_ne]; omega
    clear c1
    as_aux_lemma =>
    go_wp2
    go_ret
    exact ⟨ret_bool (by rw [q2]; rfl), HB2.out⟩

set_option maxRecDepth 100000 in
set_option maxHeartbeats 4000000 in
theorem rown1 (w : World) (v : Vl) (name : ByteArray) (a q : Cn) (rows : Int) (A : Option Addr) (n c : Nat) (r : Bool) (hd : ND.ok ⟨1, v, name, a, q, rows⟩)
    (hS : ∀ wx, Below w.heap.size w wx → Calls Tryz.prog 40 #[nodeV { zeroND with a := a, kind := 1 } A n c, nodeV ⟨1, v, name, a, q, rows⟩ A n c] wx fun e w' => e = .returned (.bool r) ∧ Below wx.heap.size wx w') :
    Calls Tryz.prog 67 #[nodeV ⟨1, v, name, a, q, rows⟩ A n c] w fun e w' => e = .returned (.bool ((a.row && a.col) && decide (n = 0) && r)) ∧ Below w.heap.size w w' := by
  have hh := nodeA_all ⟨1, v, name, a, q, rows⟩ A n c
  obtain ⟨N, hN⟩ : ∃ N, N = nodeA ⟨1, v, name, a, q, rows⟩ A n c := ⟨_, rfl⟩
  obtain ⟨M, hM⟩ : ∃ M : Array Value, M = #[.int .i64 1, .int .i64 0, .int .i64 0, .int .i64 0, .string ⟨#[]⟩, .bool false, .int .i64 0, .string ⟨#[]⟩, .int .i64 a.ra, .int .i64 a.rn, .int .i64 a.ca, .int .i64 a.cn, .bool a.fr, .bool a.fc, .int .i64 0, .int .i64 0, .int .i64 0, .int .i64 0, .bool false, .bool false, .int .i64 0, .slice A n c] := ⟨_, rfl⟩
  rw [← hN] at hh
  have hS' : ∀ wx, Below w.heap.size w wx → Calls Tryz.prog 40 #[.agg M, .agg N] wx fun e w' => e = .returned (.bool r) ∧ Below wx.heap.size wx w' := fun wx hx => by rw [hM, hN]; exact hS wx hx
  have hNs : N.size = 22 := by rw [hN]; rfl
  have hMs : M.size = 22 := by rw [hM]; rfl
  have hinf := infN
  rw [← hNs] at hinf
  have hinf' := infN
  rw [← hMs] at hinf'
  rw [nodeV, ← hN]
  obtain ⟨h0, h1, h2, h3, h4, h5, h6, h7, h8, h9, h10, h11, h12, h13, h14, h15, h16, h17, h18, h19, h20, h21⟩ := hh
  dsimp only at h0 h1 h2 h3 h4 h5 h6 h7 h8 h9 h10 h11 h12 h13 h14 h15 h16 h17 h18 h19 h20 h21
  obtain ⟨W, hW⟩ : ∃ W, W = (w.alloc (.cells N 35)).alloc (.cells M 35) := ⟨_, rfl⟩
  have hbW : Below w.heap.size w W := by rw [hW]; exact ((Below.refl _ w).alloc (Nat.le_refl _) _).alloc (by simp) _
  have hszW : w.heap.size + 2 = W.heap.size := by rw [hW]; simp
  have hkN : W.heap[w.heap.size]? = some (.cells N 35) := by rw [hW]; exact (heapOld _ _ _ (by simp)).trans (heap_alloc_new _ _)
  have hkM : W.heap[w.heap.size + 1]? = some (.cells M 35) := by
    rw [hW]; exact heap_new1 w _ _
  have hc21 : W.cell? ⟨w.heap.size, 21, none⟩ = some (.slice A n c) := by rw [Lib.cell_of_heap hkN]; exact h21
  have haft : ∀ w2, Below W.heap.size W w2 → Below w.heap.size w w2 ∧ w2.heap[w.heap.size]? = some (.cells N 35) ∧ w2.heap[w.heap.size + 1]? = some (.cells M 35) ∧ w2.cell? ⟨w.heap.size, 21, none⟩ = some (.slice A n c) := fun w2 h2 =>
    ⟨hbW.trans (h2.mono (by omega)), (h2.block _ (by omega)).trans hkN, (h2.block _ (by omega)).trans hkM, (h2.cell (p := ⟨w.heap.size, 21, none⟩) (by show w.heap.size < _; omega)).trans hc21⟩
  have HS := Lib.hid hS'
  have HIN := Lib.hid hinf
  have HIM := Lib.hid hinf'
  have HW := Lib.hid (hM ▸ hW : W = (w.alloc (.cells N 35)).alloc (.cells (#[.int .i64 1, .int .i64 0, .int .i64 0, .int .i64 0, .string ⟨#[]⟩, .bool false, .int .i64 0, .string ⟨#[]⟩, .int .i64 a.ra, .int .i64 a.rn, .int .i64 a.ca, .int .i64 a.cn, .bool a.fr, .bool a.fc, .int .i64 0, .int .i64 0, .int .i64 0, .int .i64 0, .bool false, .bool false, .int .i64 0, .slice A n c]) 35))
  have HA := Lib.hid haft
  have HD := Lib.hid hd
  have HSZ := Lib.hid hszW
  clear hS hS' hN hM hNs hMs hinf hinf' hW haft hd hszW hkN hkM hc21 hbW
  have hL := fun w => rone_any a w
  dsimp only [Cn.arr] at hL
  obtain ⟨r1, hr1⟩ : ∃ r1, (a.row && a.col) = r1 := ⟨_, rfl⟩
  rw [hr1] at hL ⊢
  have HL := Lib.hid hL
  clear hL hr1
  go_enter Tryz.func67, Tryz.ntmps67
  go_wp2_with (first | (refine wpList_nodeVar rfl rfl (w.heap.size + 1) (by simp) ?_) | (refine wpList_storeFresh (w := w.alloc (.cells N 35)) rfl _ _ _ rfl (w.heap.size + 1) (World.size_alloc _ _) _ rfl rfl infN rfl (by simp [Value.oneCell']) ?_) | fail)
  rw [← HW.out]
  refine (HL.out _).mono ?_
  rintro e w2 ⟨rfl, hbe⟩
  obtain ⟨hb2, hN2, hM2, hc2⟩ := HA.out w2 hbe
  have HB2 := Lib.hid hb2
  clear hbe hb2
  cases r1
  · as_aux_lemma =>
    go_wp2
    go_ret
    exact ⟨ret_bool (by rfl), HB2.out⟩
  by_cases c1 : n = 0
  · subst c1
    as_aux_lemma =>
    go_wp2_with (first | (refine wpList_row rfl 35 _ rfl (w.heap.size + 1) rfl 35 M (0, 0) _ hM2 undN rfl HIM.out ?_) | (refine wpList_row rfl 35 _ rfl w.heap.size rfl 35 N (0, 0) _ hN2 undN rfl HIN.out ?_) | (go_at_call 40; refine (HS.out _ HB2.out).mono ?_; rintro e w3 ⟨rfl, hbe3⟩))
    go_ret
    exact ⟨ret_bool (by simp), HB2.out.trans (hbe3.mono HB2.out.size)⟩
  · have q1 : ((n : Int) == 0) = false := by rw [beq_eq_false_iff_ne]; omega
    have q2 : decide (n = 0) = false := by simp [c1]
    have q3 : decide ((n : Int) = 0) = false := by rw [decide_eq_false_iff_not]; omega
    have q4 : (n == 0) = false := by rw [beq_eq_false_iff_ne]; omega
    clear c1
    as_aux_lemma =>
    go_wp2
    go_ret
    exact ⟨ret_bool (by rw [q2]; rfl), HB2.out⟩

set_option maxRecDepth 100000 in
set_option maxHeartbeats 4000000 in
theorem rown3 (w : World) (v : Vl) (name : ByteArray) (a q : Cn) (rows : Int) (A : Option Addr) (n c : Nat) (r : Bool) (hd : ND.ok ⟨3, v, name, a, q, rows⟩)
    (hS : ∀ wx, Below w.heap.size w wx → Calls Tryz.prog 40 #[nodeV { zeroND with a := a, kind := 3 } A n c, nodeV ⟨3, v, name, a, q, rows⟩ A n c] wx fun e w' => e = .returned (.bool r) ∧ Below wx.heap.size wx w') :
    Calls Tryz.prog 67 #[nodeV ⟨3, v, name, a, q, rows⟩ A n c] w fun e w' => e = .returned (.bool ((a.row && a.col) && decide (n = 0) && r)) ∧ Below w.heap.size w w' := by
  have hh := nodeA_all ⟨3, v, name, a, q, rows⟩ A n c
  obtain ⟨N, hN⟩ : ∃ N, N = nodeA ⟨3, v, name, a, q, rows⟩ A n c := ⟨_, rfl⟩
  obtain ⟨M, hM⟩ : ∃ M : Array Value, M = #[.int .i64 3, .int .i64 0, .int .i64 0, .int .i64 0, .string ⟨#[]⟩, .bool false, .int .i64 0, .string ⟨#[]⟩, .int .i64 a.ra, .int .i64 a.rn, .int .i64 a.ca, .int .i64 a.cn, .bool a.fr, .bool a.fc, .int .i64 0, .int .i64 0, .int .i64 0, .int .i64 0, .bool false, .bool false, .int .i64 0, .slice A n c] := ⟨_, rfl⟩
  rw [← hN] at hh
  have hS' : ∀ wx, Below w.heap.size w wx → Calls Tryz.prog 40 #[.agg M, .agg N] wx fun e w' => e = .returned (.bool r) ∧ Below wx.heap.size wx w' := fun wx hx => by rw [hM, hN]; exact hS wx hx
  have hNs : N.size = 22 := by rw [hN]; rfl
  have hMs : M.size = 22 := by rw [hM]; rfl
  have hinf := infN
  rw [← hNs] at hinf
  have hinf' := infN
  rw [← hMs] at hinf'
  rw [nodeV, ← hN]
  obtain ⟨h0, h1, h2, h3, h4, h5, h6, h7, h8, h9, h10, h11, h12, h13, h14, h15, h16, h17, h18, h19, h20, h21⟩ := hh
  dsimp only at h0 h1 h2 h3 h4 h5 h6 h7 h8 h9 h10 h11 h12 h13 h14 h15 h16 h17 h18 h19 h20 h21
  obtain ⟨W, hW⟩ : ∃ W, W = (w.alloc (.cells N 35)).alloc (.cells M 35) := ⟨_, rfl⟩
  have hbW : Below w.heap.size w W := by rw [hW]; exact ((Below.refl _ w).alloc (Nat.le_refl _) _).alloc (by simp) _
  have hszW : w.heap.size + 2 = W.heap.size := by rw [hW]; simp
  have hkN : W.heap[w.heap.size]? = some (.cells N 35) := by rw [hW]; exact (heapOld _ _ _ (by simp)).trans (heap_alloc_new _ _)
  have hkM : W.heap[w.heap.size + 1]? = some (.cells M 35) := by
    rw [hW]; exact heap_new1 w _ _
  have hc21 : W.cell? ⟨w.heap.size, 21, none⟩ = some (.slice A n c) := by rw [Lib.cell_of_heap hkN]; exact h21
  have haft : ∀ w2, Below W.heap.size W w2 → Below w.heap.size w w2 ∧ w2.heap[w.heap.size]? = some (.cells N 35) ∧ w2.heap[w.heap.size + 1]? = some (.cells M 35) ∧ w2.cell? ⟨w.heap.size, 21, none⟩ = some (.slice A n c) := fun w2 h2 =>
    ⟨hbW.trans (h2.mono (by omega)), (h2.block _ (by omega)).trans hkN, (h2.block _ (by omega)).trans hkM, (h2.cell (p := ⟨w.heap.size, 21, none⟩) (by show w.heap.size < _; omega)).trans hc21⟩
  have HS := Lib.hid hS'
  have HIN := Lib.hid hinf
  have HIM := Lib.hid hinf'
  have HW := Lib.hid (hM ▸ hW : W = (w.alloc (.cells N 35)).alloc (.cells (#[.int .i64 3, .int .i64 0, .int .i64 0, .int .i64 0, .string ⟨#[]⟩, .bool false, .int .i64 0, .string ⟨#[]⟩, .int .i64 a.ra, .int .i64 a.rn, .int .i64 a.ca, .int .i64 a.cn, .bool a.fr, .bool a.fc, .int .i64 0, .int .i64 0, .int .i64 0, .int .i64 0, .bool false, .bool false, .int .i64 0, .slice A n c]) 35))
  have HA := Lib.hid haft
  have HD := Lib.hid hd
  have HSZ := Lib.hid hszW
  clear hS hS' hN hM hNs hMs hinf hinf' hW haft hd hszW hkN hkM hc21 hbW
  have hL := fun w => rone_any a w
  dsimp only [Cn.arr] at hL
  obtain ⟨r1, hr1⟩ : ∃ r1, (a.row && a.col) = r1 := ⟨_, rfl⟩
  rw [hr1] at hL ⊢
  have HL := Lib.hid hL
  clear hL hr1
  go_enter Tryz.func67, Tryz.ntmps67
  go_wp2_with (first | (refine wpList_nodeVar rfl rfl (w.heap.size + 1) (by simp) ?_) | (refine wpList_storeFresh (w := w.alloc (.cells N 35)) rfl _ _ _ rfl (w.heap.size + 1) (World.size_alloc _ _) _ rfl rfl infN rfl (by simp [Value.oneCell']) ?_) | fail)
  rw [← HW.out]
  refine (HL.out _).mono ?_
  rintro e w2 ⟨rfl, hbe⟩
  obtain ⟨hb2, hN2, hM2, hc2⟩ := HA.out w2 hbe
  have HB2 := Lib.hid hb2
  clear hbe hb2
  cases r1
  · as_aux_lemma =>
    go_wp2
    go_ret
    exact ⟨ret_bool (by rfl), HB2.out⟩
  by_cases c1 : n = 0
  · subst c1
    as_aux_lemma =>
    go_wp2_with (first | (refine wpList_row rfl 35 _ rfl (w.heap.size + 1) rfl 35 M (0, 0) _ hM2 undN rfl HIM.out ?_) | (refine wpList_row rfl 35 _ rfl w.heap.size rfl 35 N (0, 0) _ hN2 undN rfl HIN.out ?_) | (go_at_call 40; refine (HS.out _ HB2.out).mono ?_; rintro e w3 ⟨rfl, hbe3⟩))
    go_ret
    exact ⟨ret_bool (by simp), HB2.out.trans (hbe3.mono HB2.out.size)⟩
  · have q1 : ((n : Int) == 0) = false := by rw [beq_eq_false_iff_ne]; omega
    have q2 : decide (n = 0) = false := by simp [c1]
    have q3 : decide ((n : Int) = 0) = false := by rw [decide_eq_false_iff_not]; omega
    have q4 : (n == 0) = false := by rw [beq_eq_false_iff_ne]; omega
    clear c1
    as_aux_lemma =>
    go_wp2
    go_ret
    exact ⟨ret_bool (by rw [q2]; rfl), HB2.out⟩

set_option maxRecDepth 100000 in
set_option maxHeartbeats 4000000 in
theorem rown2 (w : World) (v : Vl) (name : ByteArray) (a q : Cn) (rows : Int) (A : Option Addr) (n c : Nat) (r : Bool) (hd : ND.ok ⟨2, v, name, a, q, rows⟩)
    (hS : ∀ wx, Below w.heap.size w wx → Calls Tryz.prog 40 #[nodeV { zeroND with a := a, b := q, kind := 2 } A n c, nodeV ⟨2, v, name, a, q, rows⟩ A n c] wx fun e w' => e = .returned (.bool r) ∧ Below wx.heap.size wx w') :
    Calls Tryz.prog 67 #[nodeV ⟨2, v, name, a, q, rows⟩ A n c] w fun e w' => e = .returned (.bool (rangeB a q && decide (n = 0) && r)) ∧ Below w.heap.size w w' := by
  have hh := nodeA_all ⟨2, v, name, a, q, rows⟩ A n c
  obtain ⟨N, hN⟩ : ∃ N, N = nodeA ⟨2, v, name, a, q, rows⟩ A n c := ⟨_, rfl⟩
  obtain ⟨M, hM⟩ : ∃ M : Array Value, M = #[.int .i64 2, .int .i64 0, .int .i64 0, .int .i64 0, .string ⟨#[]⟩, .bool false, .int .i64 0, .string ⟨#[]⟩, .int .i64 a.ra, .int .i64 a.rn, .int .i64 a.ca, .int .i64 a.cn, .bool a.fr, .bool a.fc, .int .i64 q.ra, .int .i64 q.rn, .int .i64 q.ca, .int .i64 q.cn, .bool q.fr, .bool q.fc, .int .i64 0, .slice A n c] := ⟨_, rfl⟩
  rw [← hN] at hh
  have hS' : ∀ wx, Below w.heap.size w wx → Calls Tryz.prog 40 #[.agg M, .agg N] wx fun e w' => e = .returned (.bool r) ∧ Below wx.heap.size wx w' := fun wx hx => by rw [hM, hN]; exact hS wx hx
  have hNs : N.size = 22 := by rw [hN]; rfl
  have hMs : M.size = 22 := by rw [hM]; rfl
  have hinf := infN
  rw [← hNs] at hinf
  have hinf' := infN
  rw [← hMs] at hinf'
  rw [nodeV, ← hN]
  obtain ⟨h0, h1, h2, h3, h4, h5, h6, h7, h8, h9, h10, h11, h12, h13, h14, h15, h16, h17, h18, h19, h20, h21⟩ := hh
  dsimp only at h0 h1 h2 h3 h4 h5 h6 h7 h8 h9 h10 h11 h12 h13 h14 h15 h16 h17 h18 h19 h20 h21
  obtain ⟨W, hW⟩ : ∃ W, W = (w.alloc (.cells N 35)).alloc (.cells M 35) := ⟨_, rfl⟩
  have hbW : Below w.heap.size w W := by rw [hW]; exact ((Below.refl _ w).alloc (Nat.le_refl _) _).alloc (by simp) _
  have hszW : w.heap.size + 2 = W.heap.size := by rw [hW]; simp
  have hkN : W.heap[w.heap.size]? = some (.cells N 35) := by rw [hW]; exact (heapOld _ _ _ (by simp)).trans (heap_alloc_new _ _)
  have hkM : W.heap[w.heap.size + 1]? = some (.cells M 35) := by
    rw [hW]; exact heap_new1 w _ _
  have hc21 : W.cell? ⟨w.heap.size, 21, none⟩ = some (.slice A n c) := by rw [Lib.cell_of_heap hkN]; exact h21
  have haft : ∀ w2, Below W.heap.size W w2 → Below w.heap.size w w2 ∧ w2.heap[w.heap.size]? = some (.cells N 35) ∧ w2.heap[w.heap.size + 1]? = some (.cells M 35) ∧ w2.cell? ⟨w.heap.size, 21, none⟩ = some (.slice A n c) := fun w2 h2 =>
    ⟨hbW.trans (h2.mono (by omega)), (h2.block _ (by omega)).trans hkN, (h2.block _ (by omega)).trans hkM, (h2.cell (p := ⟨w.heap.size, 21, none⟩) (by show w.heap.size < _; omega)).trans hc21⟩
  have HS := Lib.hid hS'
  have HIN := Lib.hid hinf
  have HIM := Lib.hid hinf'
  have HW := Lib.hid (hM ▸ hW : W = (w.alloc (.cells N 35)).alloc (.cells (#[.int .i64 2, .int .i64 0, .int .i64 0, .int .i64 0, .string ⟨#[]⟩, .bool false, .int .i64 0, .string ⟨#[]⟩, .int .i64 a.ra, .int .i64 a.rn, .int .i64 a.ca, .int .i64 a.cn, .bool a.fr, .bool a.fc, .int .i64 q.ra, .int .i64 q.rn, .int .i64 q.ca, .int .i64 q.cn, .bool q.fr, .bool q.fc, .int .i64 0, .slice A n c]) 35))
  have HA := Lib.hid haft
  have HD := Lib.hid hd
  have HSZ := Lib.hid hszW
  clear hS hS' hN hM hNs hMs hinf hinf' hW haft hd hszW hkN hkM hc21 hbW
  have hL := fun w => rarea_any a q w
  dsimp only [Cn.arr] at hL
  obtain ⟨r1, hr1⟩ : ∃ r1, rangeB a q = r1 := ⟨_, rfl⟩
  rw [hr1] at hL ⊢
  have HL := Lib.hid hL
  clear hL hr1
  go_enter Tryz.func67, Tryz.ntmps67
  go_wp2_with (first | (refine wpList_nodeVar rfl rfl (w.heap.size + 1) (by simp) ?_) | (refine wpList_storeFresh (w := w.alloc (.cells N 35)) rfl _ _ _ rfl (w.heap.size + 1) (World.size_alloc _ _) _ rfl rfl infN rfl (by simp [Value.oneCell']) ?_) | fail)
  rw [← HW.out]
  refine (HL.out _).mono ?_
  rintro e w2 ⟨rfl, hbe⟩
  obtain ⟨hb2, hN2, hM2, hc2⟩ := HA.out w2 hbe
  have HB2 := Lib.hid hb2
  clear hbe hb2
  cases r1
  · as_aux_lemma =>
    go_wp2
    go_ret
    exact ⟨ret_bool (by rfl), HB2.out⟩
  by_cases c1 : n = 0
  · subst c1
    as_aux_lemma =>
    go_wp2_with (first | (refine wpList_row rfl 35 _ rfl (w.heap.size + 1) rfl 35 M (0, 0) _ hM2 undN rfl HIM.out ?_) | (refine wpList_row rfl 35 _ rfl w.heap.size rfl 35 N (0, 0) _ hN2 undN rfl HIN.out ?_) | (go_at_call 40; refine (HS.out _ HB2.out).mono ?_; rintro e w3 ⟨rfl, hbe3⟩))
    go_ret
    exact ⟨ret_bool (by simp), HB2.out.trans (hbe3.mono HB2.out.size)⟩
  · have q1 : ((n : Int) == 0) = false := by rw [beq_eq_false_iff_ne]; omega
    have q2 : decide (n = 0) = false := by simp [c1]
    have q3 : decide ((n : Int) = 0) = false := by rw [decide_eq_false_iff_not]; omega
    have q4 : (n == 0) = false := by rw [beq_eq_false_iff_ne]; omega
    clear c1
    as_aux_lemma =>
    go_wp2
    go_ret
    exact ⟨ret_bool (by rw [q2]; rfl), HB2.out⟩

set_option maxRecDepth 100000 in
set_option maxHeartbeats 4000000 in
theorem rown5 (w : World) (v : Vl) (name : ByteArray) (a q : Cn) (rows : Int) (A : Option Addr) (n c : Nat) (r : Bool) (hd : ND.ok ⟨5, v, name, a, q, rows⟩)
    (hS : ∀ wx, Below w.heap.size w wx → Calls Tryz.prog 40 #[nodeV { zeroND with name := name, kind := 5 } A n c, nodeV ⟨5, v, name, a, q, rows⟩ A n c] wx fun e w' => e = .returned (.bool r) ∧ Below wx.heap.size wx w') :
    Calls Tryz.prog 67 #[nodeV ⟨5, v, name, a, q, rows⟩ A n c] w fun e w' => e = .returned (.bool (unaryB name && decide (n = 1) && r)) ∧ Below w.heap.size w w' := by
  have hh := nodeA_all ⟨5, v, name, a, q, rows⟩ A n c
  obtain ⟨N, hN⟩ : ∃ N, N = nodeA ⟨5, v, name, a, q, rows⟩ A n c := ⟨_, rfl⟩
  obtain ⟨M, hM⟩ : ∃ M : Array Value, M = #[.int .i64 5, .int .i64 0, .int .i64 0, .int .i64 0, .string ⟨#[]⟩, .bool false, .int .i64 0, .string name, .int .i64 0, .int .i64 0, .int .i64 0, .int .i64 0, .bool false, .bool false, .int .i64 0, .int .i64 0, .int .i64 0, .int .i64 0, .bool false, .bool false, .int .i64 0, .slice A n c] := ⟨_, rfl⟩
  rw [← hN] at hh
  have hS' : ∀ wx, Below w.heap.size w wx → Calls Tryz.prog 40 #[.agg M, .agg N] wx fun e w' => e = .returned (.bool r) ∧ Below wx.heap.size wx w' := fun wx hx => by rw [hM, hN]; exact hS wx hx
  have hNs : N.size = 22 := by rw [hN]; rfl
  have hMs : M.size = 22 := by rw [hM]; rfl
  have hinf := infN
  rw [← hNs] at hinf
  have hinf' := infN
  rw [← hMs] at hinf'
  rw [nodeV, ← hN]
  obtain ⟨h0, h1, h2, h3, h4, h5, h6, h7, h8, h9, h10, h11, h12, h13, h14, h15, h16, h17, h18, h19, h20, h21⟩ := hh
  dsimp only at h0 h1 h2 h3 h4 h5 h6 h7 h8 h9 h10 h11 h12 h13 h14 h15 h16 h17 h18 h19 h20 h21
  obtain ⟨W, hW⟩ : ∃ W, W = (w.alloc (.cells N 35)).alloc (.cells M 35) := ⟨_, rfl⟩
  have hbW : Below w.heap.size w W := by rw [hW]; exact ((Below.refl _ w).alloc (Nat.le_refl _) _).alloc (by simp) _
  have hszW : w.heap.size + 2 = W.heap.size := by rw [hW]; simp
  have hkN : W.heap[w.heap.size]? = some (.cells N 35) := by rw [hW]; exact (heapOld _ _ _ (by simp)).trans (heap_alloc_new _ _)
  have hkM : W.heap[w.heap.size + 1]? = some (.cells M 35) := by
    rw [hW]; exact heap_new1 w _ _
  have hc21 : W.cell? ⟨w.heap.size, 21, none⟩ = some (.slice A n c) := by rw [Lib.cell_of_heap hkN]; exact h21
  have haft : ∀ w2, Below W.heap.size W w2 → Below w.heap.size w w2 ∧ w2.heap[w.heap.size]? = some (.cells N 35) ∧ w2.heap[w.heap.size + 1]? = some (.cells M 35) ∧ w2.cell? ⟨w.heap.size, 21, none⟩ = some (.slice A n c) := fun w2 h2 =>
    ⟨hbW.trans (h2.mono (by omega)), (h2.block _ (by omega)).trans hkN, (h2.block _ (by omega)).trans hkM, (h2.cell (p := ⟨w.heap.size, 21, none⟩) (by show w.heap.size < _; omega)).trans hc21⟩
  have HS := Lib.hid hS'
  have HIN := Lib.hid hinf
  have HIM := Lib.hid hinf'
  have HW := Lib.hid (hM ▸ hW : W = (w.alloc (.cells N 35)).alloc (.cells (#[.int .i64 5, .int .i64 0, .int .i64 0, .int .i64 0, .string ⟨#[]⟩, .bool false, .int .i64 0, .string name, .int .i64 0, .int .i64 0, .int .i64 0, .int .i64 0, .bool false, .bool false, .int .i64 0, .int .i64 0, .int .i64 0, .int .i64 0, .bool false, .bool false, .int .i64 0, .slice A n c]) 35))
  have HA := Lib.hid haft
  have HD := Lib.hid hd
  have HSZ := Lib.hid hszW
  clear hS hS' hN hM hNs hMs hinf hinf' hW haft hd hszW hkN hkM hc21 hbW
  have hL := fun g w hg => rin_unary name g w hg
  obtain ⟨r1, hr1⟩ : ∃ r1, unaryB name = r1 := ⟨_, rfl⟩
  rw [hr1] at hL ⊢
  have HL := Lib.hid hL
  clear hL hr1
  go_enter Tryz.func67, Tryz.ntmps67
  go_wp2_with (first | (refine wpList_nodeVar rfl rfl (w.heap.size + 1) (by simp) ?_) | (refine wpList_storeFresh (w := w.alloc (.cells N 35)) rfl _ _ _ rfl (w.heap.size + 1) (World.size_alloc _ _) _ rfl rfl infN rfl (by simp [Value.oneCell']) ?_) | fail)
  rw [← HW.out]
  refine (HL.out _ _ (by rw [HSZ.out]; exact heap_alloc_new _ _)).mono ?_
  rintro e w2 ⟨rfl, hbe⟩
  obtain ⟨hb2, hN2, hM2, hc2⟩ := HA.out w2 (((Below.refl _ W).alloc (Nat.le_refl _) _).trans (hbe.mono (by simp)))
  have HB2 := Lib.hid hb2
  clear hbe hb2
  cases r1
  · as_aux_lemma =>
    go_wp2
    go_ret
    exact ⟨ret_bool (by rfl), HB2.out⟩
  by_cases c1 : n = 1
  · subst c1
    as_aux_lemma =>
    go_wp2_with (first | (refine wpList_row rfl 35 _ rfl (w.heap.size + 1) rfl 35 M (0, 0) _ hM2 undN rfl HIM.out ?_) | (refine wpList_row rfl 35 _ rfl w.heap.size rfl 35 N (0, 0) _ hN2 undN rfl HIN.out ?_) | (go_at_call 40; refine (HS.out _ HB2.out).mono ?_; rintro e w3 ⟨rfl, hbe3⟩))
    go_ret
    exact ⟨ret_bool (by simp), HB2.out.trans (hbe3.mono HB2.out.size)⟩
  · have q1 : ((n : Int) == 1) = false := by rw [beq_eq_false_iff_ne]; omega
    have q2 : decide (n = 1) = false := by simp [c1]
    have q3 : decide ((n : Int) = 1) = false := by rw [decide_eq_false_iff_not]; omega
    have q4 : (n == 1) = false := by rw [beq_eq_false_iff_ne]; omega
    clear c1
    as_aux_lemma =>
    go_wp2
    go_ret
    exact ⟨ret_bool (by rw [q2]; rfl), HB2.out⟩

set_option maxRecDepth 100000 in
set_option maxHeartbeats 4000000 in
theorem rown6 (w : World) (v : Vl) (name : ByteArray) (a q : Cn) (rows : Int) (A : Option Addr) (n c : Nat) (r : Bool) (hd : ND.ok ⟨6, v, name, a, q, rows⟩)
    (hS : ∀ wx, Below w.heap.size w wx → Calls Tryz.prog 40 #[nodeV { zeroND with name := name, kind := 6 } A n c, nodeV ⟨6, v, name, a, q, rows⟩ A n c] wx fun e w' => e = .returned (.bool r) ∧ Below wx.heap.size wx w') :
    Calls Tryz.prog 67 #[nodeV ⟨6, v, name, a, q, rows⟩ A n c] w fun e w' => e = .returned (.bool (binaryB name && decide (n = 2) && r)) ∧ Below w.heap.size w w' := by
  have hh := nodeA_all ⟨6, v, name, a, q, rows⟩ A n c
  obtain ⟨N, hN⟩ : ∃ N, N = nodeA ⟨6, v, name, a, q, rows⟩ A n c := ⟨_, rfl⟩
  obtain ⟨M, hM⟩ : ∃ M : Array Value, M = #[.int .i64 6, .int .i64 0, .int .i64 0, .int .i64 0, .string ⟨#[]⟩, .bool false, .int .i64 0, .string name, .int .i64 0, .int .i64 0, .int .i64 0, .int .i64 0, .bool false, .bool false, .int .i64 0, .int .i64 0, .int .i64 0, .int .i64 0, .bool false, .bool false, .int .i64 0, .slice A n c] := ⟨_, rfl⟩
  rw [← hN] at hh
  have hS' : ∀ wx, Below w.heap.size w wx → Calls Tryz.prog 40 #[.agg M, .agg N] wx fun e w' => e = .returned (.bool r) ∧ Below wx.heap.size wx w' := fun wx hx => by rw [hM, hN]; exact hS wx hx
  have hNs : N.size = 22 := by rw [hN]; rfl
  have hMs : M.size = 22 := by rw [hM]; rfl
  have hinf := infN
  rw [← hNs] at hinf
  have hinf' := infN
  rw [← hMs] at hinf'
  rw [nodeV, ← hN]
  obtain ⟨h0, h1, h2, h3, h4, h5, h6, h7, h8, h9, h10, h11, h12, h13, h14, h15, h16, h17, h18, h19, h20, h21⟩ := hh
  dsimp only at h0 h1 h2 h3 h4 h5 h6 h7 h8 h9 h10 h11 h12 h13 h14 h15 h16 h17 h18 h19 h20 h21
  obtain ⟨W, hW⟩ : ∃ W, W = (w.alloc (.cells N 35)).alloc (.cells M 35) := ⟨_, rfl⟩
  have hbW : Below w.heap.size w W := by rw [hW]; exact ((Below.refl _ w).alloc (Nat.le_refl _) _).alloc (by simp) _
  have hszW : w.heap.size + 2 = W.heap.size := by rw [hW]; simp
  have hkN : W.heap[w.heap.size]? = some (.cells N 35) := by rw [hW]; exact (heapOld _ _ _ (by simp)).trans (heap_alloc_new _ _)
  have hkM : W.heap[w.heap.size + 1]? = some (.cells M 35) := by
    rw [hW]; exact heap_new1 w _ _
  have hc21 : W.cell? ⟨w.heap.size, 21, none⟩ = some (.slice A n c) := by rw [Lib.cell_of_heap hkN]; exact h21
  have haft : ∀ w2, Below W.heap.size W w2 → Below w.heap.size w w2 ∧ w2.heap[w.heap.size]? = some (.cells N 35) ∧ w2.heap[w.heap.size + 1]? = some (.cells M 35) ∧ w2.cell? ⟨w.heap.size, 21, none⟩ = some (.slice A n c) := fun w2 h2 =>
    ⟨hbW.trans (h2.mono (by omega)), (h2.block _ (by omega)).trans hkN, (h2.block _ (by omega)).trans hkM, (h2.cell (p := ⟨w.heap.size, 21, none⟩) (by show w.heap.size < _; omega)).trans hc21⟩
  have HS := Lib.hid hS'
  have HIN := Lib.hid hinf
  have HIM := Lib.hid hinf'
  have HW := Lib.hid (hM ▸ hW : W = (w.alloc (.cells N 35)).alloc (.cells (#[.int .i64 6, .int .i64 0, .int .i64 0, .int .i64 0, .string ⟨#[]⟩, .bool false, .int .i64 0, .string name, .int .i64 0, .int .i64 0, .int .i64 0, .int .i64 0, .bool false, .bool false, .int .i64 0, .int .i64 0, .int .i64 0, .int .i64 0, .bool false, .bool false, .int .i64 0, .slice A n c]) 35))
  have HA := Lib.hid haft
  have HD := Lib.hid hd
  have HSZ := Lib.hid hszW
  clear hS hS' hN hM hNs hMs hinf hinf' hW haft hd hszW hkN hkM hc21 hbW
  have hL := fun g w hg => rin_binary name g w hg
  obtain ⟨r1, hr1⟩ : ∃ r1, binaryB name = r1 := ⟨_, rfl⟩
  rw [hr1] at hL ⊢
  have HL := Lib.hid hL
  clear hL hr1
  go_enter Tryz.func67, Tryz.ntmps67
  go_wp2_with (first | (refine wpList_nodeVar rfl rfl (w.heap.size + 1) (by simp) ?_) | (refine wpList_storeFresh (w := w.alloc (.cells N 35)) rfl _ _ _ rfl (w.heap.size + 1) (World.size_alloc _ _) _ rfl rfl infN rfl (by simp [Value.oneCell']) ?_) | fail)
  rw [← HW.out]
  refine (HL.out _ _ (by rw [HSZ.out]; exact heap_alloc_new _ _)).mono ?_
  rintro e w2 ⟨rfl, hbe⟩
  obtain ⟨hb2, hN2, hM2, hc2⟩ := HA.out w2 (((Below.refl _ W).alloc (Nat.le_refl _) _).trans (hbe.mono (by simp)))
  have HB2 := Lib.hid hb2
  clear hbe hb2
  cases r1
  · as_aux_lemma =>
    go_wp2
    go_ret
    exact ⟨ret_bool (by rfl), HB2.out⟩
  by_cases c1 : n = 2
  · subst c1
    as_aux_lemma =>
    go_wp2_with (first | (refine wpList_row rfl 35 _ rfl (w.heap.size + 1) rfl 35 M (0, 0) _ hM2 undN rfl HIM.out ?_) | (refine wpList_row rfl 35 _ rfl w.heap.size rfl 35 N (0, 0) _ hN2 undN rfl HIN.out ?_) | (go_at_call 40; refine (HS.out _ HB2.out).mono ?_; rintro e w3 ⟨rfl, hbe3⟩))
    go_ret
    exact ⟨ret_bool (by simp), HB2.out.trans (hbe3.mono HB2.out.size)⟩
  · have q1 : ((n : Int) == 2) = false := by rw [beq_eq_false_iff_ne]; omega
    have q2 : decide (n = 2) = false := by simp [c1]
    have q3 : decide ((n : Int) = 2) = false := by rw [decide_eq_false_iff_not]; omega
    have q4 : (n == 2) = false := by rw [beq_eq_false_iff_ne]; omega
    clear c1
    as_aux_lemma =>
    go_wp2
    go_ret
    exact ⟨ret_bool (by rw [q2]; rfl), HB2.out⟩

set_option maxRecDepth 100000 in
set_option maxHeartbeats 4000000 in
theorem rown7 (w : World) (v : Vl) (name : ByteArray) (a q : Cn) (rows : Int) (A : Option Addr) (n c : Nat) (r : Bool) (hd : ND.ok ⟨7, v, name, a, q, rows⟩)
    (hS : ∀ wx, Below w.heap.size w wx → Calls Tryz.prog 40 #[nodeV { zeroND with name := name, kind := 7 } A n c, nodeV ⟨7, v, name, a, q, rows⟩ A n c] wx fun e w' => e = .returned (.bool r) ∧ Below wx.heap.size wx w') :
    Calls Tryz.prog 67 #[nodeV ⟨7, v, name, a, q, rows⟩ A n c] w fun e w' => e = .returned (.bool (isNameB name && decide (n = 0) && r)) ∧ Below w.heap.size w w' := by
  have hh := nodeA_all ⟨7, v, name, a, q, rows⟩ A n c
  obtain ⟨N, hN⟩ : ∃ N, N = nodeA ⟨7, v, name, a, q, rows⟩ A n c := ⟨_, rfl⟩
  obtain ⟨M, hM⟩ : ∃ M : Array Value, M = #[.int .i64 7, .int .i64 0, .int .i64 0, .int .i64 0, .string ⟨#[]⟩, .bool false, .int .i64 0, .string name, .int .i64 0, .int .i64 0, .int .i64 0, .int .i64 0, .bool false, .bool false, .int .i64 0, .int .i64 0, .int .i64 0, .int .i64 0, .bool false, .bool false, .int .i64 0, .slice A n c] := ⟨_, rfl⟩
  rw [← hN] at hh
  have hS' : ∀ wx, Below w.heap.size w wx → Calls Tryz.prog 40 #[.agg M, .agg N] wx fun e w' => e = .returned (.bool r) ∧ Below wx.heap.size wx w' := fun wx hx => by rw [hM, hN]; exact hS wx hx
  have hNs : N.size = 22 := by rw [hN]; rfl
  have hMs : M.size = 22 := by rw [hM]; rfl
  have hinf := infN
  rw [← hNs] at hinf
  have hinf' := infN
  rw [← hMs] at hinf'
  rw [nodeV, ← hN]
  obtain ⟨h0, h1, h2, h3, h4, h5, h6, h7, h8, h9, h10, h11, h12, h13, h14, h15, h16, h17, h18, h19, h20, h21⟩ := hh
  dsimp only at h0 h1 h2 h3 h4 h5 h6 h7 h8 h9 h10 h11 h12 h13 h14 h15 h16 h17 h18 h19 h20 h21
  obtain ⟨W, hW⟩ : ∃ W, W = (w.alloc (.cells N 35)).alloc (.cells M 35) := ⟨_, rfl⟩
  have hbW : Below w.heap.size w W := by rw [hW]; exact ((Below.refl _ w).alloc (Nat.le_refl _) _).alloc (by simp) _
  have hszW : w.heap.size + 2 = W.heap.size := by rw [hW]; simp
  have hkN : W.heap[w.heap.size]? = some (.cells N 35) := by rw [hW]; exact (heapOld _ _ _ (by simp)).trans (heap_alloc_new _ _)
  have hkM : W.heap[w.heap.size + 1]? = some (.cells M 35) := by
    rw [hW]; exact heap_new1 w _ _
  have hc21 : W.cell? ⟨w.heap.size, 21, none⟩ = some (.slice A n c) := by rw [Lib.cell_of_heap hkN]; exact h21
  have haft : ∀ w2, Below W.heap.size W w2 → Below w.heap.size w w2 ∧ w2.heap[w.heap.size]? = some (.cells N 35) ∧ w2.heap[w.heap.size + 1]? = some (.cells M 35) ∧ w2.cell? ⟨w.heap.size, 21, none⟩ = some (.slice A n c) := fun w2 h2 =>
    ⟨hbW.trans (h2.mono (by omega)), (h2.block _ (by omega)).trans hkN, (h2.block _ (by omega)).trans hkM, (h2.cell (p := ⟨w.heap.size, 21, none⟩) (by show w.heap.size < _; omega)).trans hc21⟩
  have HS := Lib.hid hS'
  have HIN := Lib.hid hinf
  have HIM := Lib.hid hinf'
  have HW := Lib.hid (hM ▸ hW : W = (w.alloc (.cells N 35)).alloc (.cells (#[.int .i64 7, .int .i64 0, .int .i64 0, .int .i64 0, .string ⟨#[]⟩, .bool false, .int .i64 0, .string name, .int .i64 0, .int .i64 0, .int .i64 0, .int .i64 0, .bool false, .bool false, .int .i64 0, .int .i64 0, .int .i64 0, .int .i64 0, .bool false, .bool false, .int .i64 0, .slice A n c]) 35))
  have HA := Lib.hid haft
  have HD := Lib.hid hd
  have HSZ := Lib.hid hszW
  clear hS hS' hN hM hNs hMs hinf hinf' hW haft hd hszW hkN hkM hc21 hbW
  have hL := fun w => rname_any name HD.out.2.2.1 w
  obtain ⟨r1, hr1⟩ : ∃ r1, isNameB name = r1 := ⟨_, rfl⟩
  rw [hr1] at hL ⊢
  have HL := Lib.hid hL
  clear hL hr1
  go_enter Tryz.func67, Tryz.ntmps67
  go_wp2_with (first | (refine wpList_nodeVar rfl rfl (w.heap.size + 1) (by simp) ?_) | (refine wpList_storeFresh (w := w.alloc (.cells N 35)) rfl _ _ _ rfl (w.heap.size + 1) (World.size_alloc _ _) _ rfl rfl infN rfl (by simp [Value.oneCell']) ?_) | fail)
  rw [← HW.out]
  refine (HL.out _).mono ?_
  rintro e w2 ⟨rfl, hbe⟩
  obtain ⟨hb2, hN2, hM2, hc2⟩ := HA.out w2 hbe
  have HB2 := Lib.hid hb2
  clear hbe hb2
  cases r1
  · as_aux_lemma =>
    go_wp2
    go_ret
    exact ⟨ret_bool (by rfl), HB2.out⟩
  by_cases c1 : n = 0
  · subst c1
    as_aux_lemma =>
    go_wp2_with (first | (refine wpList_row rfl 35 _ rfl (w.heap.size + 1) rfl 35 M (0, 0) _ hM2 undN rfl HIM.out ?_) | (refine wpList_row rfl 35 _ rfl w.heap.size rfl 35 N (0, 0) _ hN2 undN rfl HIN.out ?_) | (go_at_call 40; refine (HS.out _ HB2.out).mono ?_; rintro e w3 ⟨rfl, hbe3⟩))
    go_ret
    exact ⟨ret_bool (by simp), HB2.out.trans (hbe3.mono HB2.out.size)⟩
  · have q1 : ((n : Int) == 0) = false := by rw [beq_eq_false_iff_ne]; omega
    have q2 : decide (n = 0) = false := by simp [c1]
    have q3 : decide ((n : Int) = 0) = false := by rw [decide_eq_false_iff_not]; omega
    have q4 : (n == 0) = false := by rw [beq_eq_false_iff_ne]; omega
    clear c1
    as_aux_lemma =>
    go_wp2
    go_ret
    exact ⟨ret_bool (by rw [q2]; rfl), HB2.out⟩
end Go.Proofs.YtbiacjkkgddclaaGreat
