/- counterpaneref06.own, at kind 8, a branch. counterpaneref06.own, its region 28 (kind 8). -/
import Derived.Test.YtbiacjkkgddclaaGreatFiM
namespace Go.Proofs.YtbiacjkkgddclaaGreat
open Go.RowKit Go.Shelf

set_option maxRecDepth 100000 in
set_option maxHeartbeats 20000000 in
theorem rown8b (w : World) (v : Vl) (name : ByteArray) (a q : Cn) (rows : Int) (A : Option Addr) (n c : Nat) (r : Bool) (hd : ND.ok ⟨8, v, name, a, q, rows⟩)
    (hS : ∀ wx, Below w.heap.size w wx → Calls Tryz.prog 40 #[nodeV { zeroND with rows := rows, kind := 8 } A n c, nodeV ⟨8, v, name, a, q, rows⟩ A n c] wx fun e w' => e = .returned (.bool r) ∧ Below wx.heap.size wx w') (c1 : 1 ≤ rows) (c2 : 1 ≤ n) (md : Int) (hmd : (n : Int) % rows = md) (c3 : ¬ md = 0) :
    Calls Tryz.prog 67 #[nodeV ⟨8, v, name, a, q, rows⟩ A n c] w fun e w' => e = .returned (.bool (false && r)) ∧ Below w.heap.size w w' := by
  have hh := nodeA_all ⟨8, v, name, a, q, rows⟩ A n c
  obtain ⟨N, hN⟩ : ∃ N, N = nodeA ⟨8, v, name, a, q, rows⟩ A n c := ⟨_, rfl⟩
  obtain ⟨M, hM⟩ : ∃ M : Array Value, M = #[.int .i64 8, .int .i64 0, .int .i64 0, .int .i64 0, .string ⟨#[]⟩, .bool false, .int .i64 0, .string ⟨#[]⟩, .int .i64 0, .int .i64 0, .int .i64 0, .int .i64 0, .bool false, .bool false, .int .i64 0, .int .i64 0, .int .i64 0, .int .i64 0, .bool false, .bool false, .int .i64 rows, .slice A n c] := ⟨_, rfl⟩
  rw [← hN] at hh
  have hS' : ∀ wx, Below w.heap.size w wx → Calls Tryz.prog 40 #[.agg M, .agg N] wx fun e w' => e = .returned (.bool r) ∧ Below wx.heap.size wx w' := fun wx hx => by rw [hM, hN]; exact hS wx hx
  have hNs : N.size = 22 := by rw [hN]; rfl
  have hMs : M.size = 22 := by rw [hM]; rfl
  rw [nodeV, ← hN]
  obtain ⟨h0, h1, h2, h3, h4, h5, h6, h7, h8, h9, h10, h11, h12, h13, h14, h15, h16, h17, h18, h19, h20, h21⟩ := hh
  dsimp only at h0 h20 h21
  clear h1 h2 h3 h4 h5 h6 h7 h8 h9 h10 h11 h12 h13 h14 h15 h16 h17 h18 h19
  have HS := Lib.hid hS'
  have HD := Lib.hid hd
  clear hS hS' hN hd
  obtain ⟨W0, hW0⟩ : ∃ W0, W0 = (w.alloc (.cells N 35)).alloc (.cells #[.int .i64 8, .int .i64 0, .int .i64 0, .int .i64 0, .string ⟨#[]⟩, .bool false, .int .i64 0, .string ⟨#[]⟩, .int .i64 0, .int .i64 0, .int .i64 0, .int .i64 0, .bool false, .bool false, .int .i64 0, .int .i64 0, .int .i64 0, .int .i64 0, .bool false, .bool false, .int .i64 0, .slice A n c] 35) := ⟨_, rfl⟩
  have hb0 : Below w.heap.size w W0 := by rw [hW0]; exact ((Below.refl _ w).alloc (Nat.le_refl _) _).alloc (by simp) _
  have hk0 : W0.heap[w.heap.size]? = some (.cells N 35) := by rw [hW0]; exact (heapOld _ _ _ (by simp)).trans (heap_alloc_new _ _)
  have hk1 : W0.heap[w.heap.size + 1]? = some (.cells #[.int .i64 8, .int .i64 0, .int .i64 0, .int .i64 0, .string ⟨#[]⟩, .bool false, .int .i64 0, .string ⟨#[]⟩, .int .i64 0, .int .i64 0, .int .i64 0, .int .i64 0, .bool false, .bool false, .int .i64 0, .int .i64 0, .int .i64 0, .int .i64 0, .bool false, .bool false, .int .i64 0, .slice A n c] 35) := by rw [hW0]; exact heap_new1 w _ _
  have c0 : W0.cell? ⟨w.heap.size, 0, none⟩ = some (.int .i64 8) := by rw [Lib.cell_of_heap hk0]; exact h0
  have c20 : W0.cell? ⟨w.heap.size, 20, none⟩ = some (.int .i64 rows) := by rw [Lib.cell_of_heap hk0]; exact h20
  have c21 : W0.cell? ⟨w.heap.size, 21, none⟩ = some (.slice A n c) := by rw [Lib.cell_of_heap hk0]; exact h21
  have m20 : W0.cell? ⟨w.heap.size + 1, 20, none⟩ = some (.int .i64 0) := by rw [Lib.cell_of_heap hk1]; rfl
  have f20 : W0.frozen? ⟨w.heap.size + 1, 20, none⟩ = false := by simp [World.frozen?, hk1]
  have hB2 : Below w.heap.size w (W0.setCell ⟨w.heap.size + 1, 20, none⟩ (.int .i64 rows)) := hb0.setCell (by simp) _
  have hN2 : (W0.setCell ⟨w.heap.size + 1, 20, none⟩ (.int .i64 rows)).heap[w.heap.size]? = some (.cells N 35) := (Below.heap_setCell _ _ _ _ (by simp)).trans hk0
  have hM2 : (W0.setCell ⟨w.heap.size + 1, 20, none⟩ (.int .i64 rows)).heap[w.heap.size + 1]? = some (.cells M 35) := by rw [hM]; exact (heap_setCell_same _ _ _ _ _ _ hk1)
  have HW0 := Lib.hid hW0
  have HB2 := Lib.hid hB2
  have HN2 := Lib.hid hN2
  have HM2 := Lib.hid hM2
  have HNS := Lib.hid hNs
  have HMS := Lib.hid hMs
  clear hW0 hb0 hk0 hk1 hB2 hN2 hM2 hM hNs hMs
  have hr0 : (rows == 0) = false := by rw [beq_eq_false_iff_ne]; omega
  have hr1 : ¬ rows = 0 := by omega
  have d1 : decide (1 ≤ rows) = true := by simp [c1]
  have d2 : decide ((1 : Int) ≤ (n : Int)) = true := by simp; omega
  have hrl : rows ≤ 9223372036854775807 := HD.out.2.2.2.2.2.2
  have htm : (n : Int).tmod rows = md := by rw [Int.tmod_eq_emod_of_nonneg (by omega)]; exact hmd
  have hml1 : 0 ≤ md := by rw [← hmd]; exact Int.emod_nonneg _ (by omega)
  have hml2 : md < rows := by rw [← hmd]; exact Int.emod_lt_of_pos _ (by omega)
  have hwr : IntKind.i64.wrap md = md := IntWalk.i64_in _ (by omega)
  have q1 : (md == 0) = false := by simp [c3]
  have q2 : decide (md = 0) = false := by simp [c3]
  have HMD := Lib.hid hmd
  clear HD hmd c3 c2
  go_enter Tryz.func67, Tryz.ntmps67
  have e31 := cut_from 31 ownC
  obtain ⟨C, hC⟩ : ∃ C, C = fromRegion 31 ownC := ⟨_, rfl⟩
  rw [← hC] at e31
  have HC := Lib.hid hC
  clear hC
  change Code.wp Tryz.prog ownC _ _ _
  rw [← e31]
  clear e31
  conv => arg 2; whnf; repeat (arg 2; whnf)
  go_wp2_with (first | (refine wpList_nodeVar rfl rfl (w.heap.size + 1) (by simp) ?_) | (refine wpList_storeFresh (w := w.alloc (.cells N 35)) rfl _ _ _ rfl (w.heap.size + 1) (World.size_alloc _ _) _ rfl rfl infN rfl (by simp [Value.oneCell']) ?_; rw [← HW0.out]) | fail)
  refine Code.wp_mono (own_fin HB2.out) ?_
  rw [HC.out]
  exact own31 _ _ _ _ _ _ _ _ _ _ _ _ _ _ _ _ _ _ _ _ _ _ _ _ _ _ _ _ _ _ _ _ _ _ _ _ _ _ _ _ _ _ _ _ _ _ _ _ _ _ _ _ _ _ _ _ _ _ _ _ _ _ _ _ _ _ _ _ _ _ _ _ _ _ _ _ _ _ _ _ _ _ _ _ _ _ _ _ _ _ _ _ _ _ _ _ _ _ _ _ _ _ _ _ _ _ _ _ _ _ _ _ _ _ _ _ _ _ _ _ _ _ _ _ _ _ _ _ _ _ _ _ _ _ _ _ _ _ _ _ _ _ _ _ _ _ _ _ _ _ _ _ _ _ _ _ _ _ _ _ _ _ _ _ _ _ (W0.setCell ⟨w.heap.size + 1, 20, none⟩ (.int .i64 rows)) N M w.heap.size false r HN2.out HM2.out HNS.out HMS.out (HS.out _ HB2.out)
end Go.Proofs.YtbiacjkkgddclaaGreat
namespace Go.Proofs.YtbiacjkkgddclaaGreat
open Go.RowKit Go.Shelf

/-- a region of a code, by its number. -/
def rgn (k : Nat) : Code → Option Code
  | .region i o b => match Nat.beq i k with | true => some (.region i o b) | false => none
  | .seq a b => match rgn k a with | some c => some c | none => rgn k b
  | .cond _ a b => match rgn k a with | some c => some c | none => rgn k b
  | .block _ b => rgn k b
  | .loop b => rgn k b
  | .scope b => rgn k b
  | _ => none
noncomputable def own28C : Code := (rgn 28 ownC).getD .skip

set_option maxRecDepth 100000 in
set_option maxHeartbeats 4000000 in
theorem own28c (u0 u2 u4 u5 u6 u7 u8 u9 u10 u11 u12 u13 u14 u15 u16 u17 u18 u19 u20 u21 u22 u23 u24 u25 u26 u27 u28 u29 u30 u31 u32 u33 u34 u35 u36 u37 u38 u39 u40 u41 u42 u43 u44 u45 u46 u47 u48 u49 u50 u51 u52 u53 u54 u55 u56 u57 u58 u59 u60 u61 u62 u63 u64 u65 u66 u67 u68 u69 u70 u71 u72 u73 u74 u75 u76 u77 u78 u79 u80 u81 u82 u83 u84 u85 u86 u87 u88 u89 u90 u91 u92 u93 u94 u95 u96 u97 u98 u99 u100 u101 u102 u103 u104 u105 u106 u107 u108 u109 u110 u111 u112 u113 u114 u115 u116 u117 u118 u119 u120 u121 u122 u123 u124 u125 u126 u127 u128 u129 u130 u131 u132 u133 u134 u135 u136 u137 u138 u139 u140 u141 u142 u143 u144 u145 u146 u147 u148 u149 u150 u151 u152 u153 u154 u155 u156 u157 u158 u159 u160 u161 u162 u163 u164 u165 u166 u167 u168 : Value) (Q : Exit → Act → World → Prop) (w : World) (g : Nat) (rows : Int) (h20 : w.cell? ⟨g, 20, none⟩ = some (.int .i64 rows)) (c1 : 1 ≤ rows) (n c : Nat) (A : Option Addr) (h21 : w.cell? ⟨g, 21, none⟩ = some (.slice A n c)) (c2 : ¬ 1 ≤ n)
    (HQ : ∀ (v139 v140 v141 v142 v143 v144 v145 v146 v147 v148 v149 v150 v151 v152 v153 v154 v155 v156 : Value), Q .normal ⟨#[u0, .pointer (some ⟨g, 0, none⟩), u2, .pointer (some ⟨g + 1, 0, none⟩), .bool false, u5, u6, u7, u8, u9, u10, u11, u12, u13, u14, u15, u16, u17, u18, u19, u20, u21, u22, u23, u24, u25, u26, u27, u28, u29, u30, u31, u32, u33, u34, u35, u36, u37, u38, u39, u40, u41, u42, u43, u44, u45, u46, u47, u48, u49, u50, u51, u52, u53, u54, u55, u56, u57, u58, u59, u60, u61, u62, u63, u64, u65, u66, u67, u68, u69, u70, u71, u72, u73, u74, u75, u76, u77, u78, u79, u80, u81, u82, u83, u84, u85, u86, u87, u88, u89, u90, u91, u92, u93, u94, u95, u96, u97, u98, u99, u100, u101, u102, u103, u104, u105, u106, u107, u108, u109, u110, u111, u112, u113, u114, u115, u116, u117, u118, u119, u120, u121, u122, u123, u124, u125, u126, u127, u128, u129, u130, u131, u132, u133, u134, u135, u136, u137, u138, v139, v140, v141, v142, v143, v144, v145, v146, v147, v148, v149, v150, v151, v152, v153, v154, v155, v156, u157, u158, u159, u160, u161, u162, u163, u164, u165, u166, u167, u168], []⟩ w) :
    Code.wp Tryz.prog own28C Q ⟨#[u0, .pointer (some ⟨g, 0, none⟩), u2, .pointer (some ⟨g + 1, 0, none⟩), u4, u5, u6, u7, u8, u9, u10, u11, u12, u13, u14, u15, u16, u17, u18, u19, u20, u21, u22, u23, u24, u25, u26, u27, u28, u29, u30, u31, u32, u33, u34, u35, u36, u37, u38, u39, u40, u41, u42, u43, u44, u45, u46, u47, u48, u49, u50, u51, u52, u53, u54, u55, u56, u57, u58, u59, u60, u61, u62, u63, u64, u65, u66, u67, u68, u69, u70, u71, u72, u73, u74, u75, u76, u77, u78, u79, u80, u81, u82, u83, u84, u85, u86, u87, u88, u89, u90, u91, u92, u93, u94, u95, u96, u97, u98, u99, u100, u101, u102, u103, u104, u105, u106, u107, u108, u109, u110, u111, u112, u113, u114, u115, u116, u117, u118, u119, u120, u121, u122, u123, u124, u125, u126, u127, u128, u129, u130, u131, u132, u133, u134, u135, u136, u137, u138, u139, u140, u141, u142, u143, u144, u145, u146, u147, u148, u149, u150, u151, u152, u153, u154, u155, u156, u157, u158, u159, u160, u161, u162, u163, u164, u165, u166, u167, u168], []⟩ w := by
  dsimp only
  have H := Lib.hid HQ
  clear HQ
  have d1 : decide (1 ≤ rows) = true := by simp [c1]
  have d2 : decide ((1 : Int) ≤ (n : Int)) = false := by simp; omega
  clear c2
  conv => arg 2; whnf; arg 3; whnf
  go_wp2
  exact H.out _ _ _ _ _ _ _ _ _ _ _ _ _ _ _ _ _ _

set_option maxRecDepth 100000 in
set_option maxHeartbeats 4000000 in
theorem own28d (u0 u2 u4 u5 u6 u7 u8 u9 u10 u11 u12 u13 u14 u15 u16 u17 u18 u19 u20 u21 u22 u23 u24 u25 u26 u27 u28 u29 u30 u31 u32 u33 u34 u35 u36 u37 u38 u39 u40 u41 u42 u43 u44 u45 u46 u47 u48 u49 u50 u51 u52 u53 u54 u55 u56 u57 u58 u59 u60 u61 u62 u63 u64 u65 u66 u67 u68 u69 u70 u71 u72 u73 u74 u75 u76 u77 u78 u79 u80 u81 u82 u83 u84 u85 u86 u87 u88 u89 u90 u91 u92 u93 u94 u95 u96 u97 u98 u99 u100 u101 u102 u103 u104 u105 u106 u107 u108 u109 u110 u111 u112 u113 u114 u115 u116 u117 u118 u119 u120 u121 u122 u123 u124 u125 u126 u127 u128 u129 u130 u131 u132 u133 u134 u135 u136 u137 u138 u139 u140 u141 u142 u143 u144 u145 u146 u147 u148 u149 u150 u151 u152 u153 u154 u155 u156 u157 u158 u159 u160 u161 u162 u163 u164 u165 u166 u167 u168 : Value) (Q : Exit → Act → World → Prop) (w : World) (g : Nat) (rows : Int) (h20 : w.cell? ⟨g, 20, none⟩ = some (.int .i64 rows)) (c1 : ¬ 1 ≤ rows)
    (HQ : ∀ (v139 v140 v141 v142 v143 v144 v145 v146 v147 v148 v149 v150 v151 v152 v153 v154 v155 v156 : Value), Q .normal ⟨#[u0, .pointer (some ⟨g, 0, none⟩), u2, .pointer (some ⟨g + 1, 0, none⟩), .bool false, u5, u6, u7, u8, u9, u10, u11, u12, u13, u14, u15, u16, u17, u18, u19, u20, u21, u22, u23, u24, u25, u26, u27, u28, u29, u30, u31, u32, u33, u34, u35, u36, u37, u38, u39, u40, u41, u42, u43, u44, u45, u46, u47, u48, u49, u50, u51, u52, u53, u54, u55, u56, u57, u58, u59, u60, u61, u62, u63, u64, u65, u66, u67, u68, u69, u70, u71, u72, u73, u74, u75, u76, u77, u78, u79, u80, u81, u82, u83, u84, u85, u86, u87, u88, u89, u90, u91, u92, u93, u94, u95, u96, u97, u98, u99, u100, u101, u102, u103, u104, u105, u106, u107, u108, u109, u110, u111, u112, u113, u114, u115, u116, u117, u118, u119, u120, u121, u122, u123, u124, u125, u126, u127, u128, u129, u130, u131, u132, u133, u134, u135, u136, u137, u138, v139, v140, v141, v142, v143, v144, v145, v146, v147, v148, v149, v150, v151, v152, v153, v154, v155, v156, u157, u158, u159, u160, u161, u162, u163, u164, u165, u166, u167, u168], []⟩ w) :
    Code.wp Tryz.prog own28C Q ⟨#[u0, .pointer (some ⟨g, 0, none⟩), u2, .pointer (some ⟨g + 1, 0, none⟩), u4, u5, u6, u7, u8, u9, u10, u11, u12, u13, u14, u15, u16, u17, u18, u19, u20, u21, u22, u23, u24, u25, u26, u27, u28, u29, u30, u31, u32, u33, u34, u35, u36, u37, u38, u39, u40, u41, u42, u43, u44, u45, u46, u47, u48, u49, u50, u51, u52, u53, u54, u55, u56, u57, u58, u59, u60, u61, u62, u63, u64, u65, u66, u67, u68, u69, u70, u71, u72, u73, u74, u75, u76, u77, u78, u79, u80, u81, u82, u83, u84, u85, u86, u87, u88, u89, u90, u91, u92, u93, u94, u95, u96, u97, u98, u99, u100, u101, u102, u103, u104, u105, u106, u107, u108, u109, u110, u111, u112, u113, u114, u115, u116, u117, u118, u119, u120, u121, u122, u123, u124, u125, u126, u127, u128, u129, u130, u131, u132, u133, u134, u135, u136, u137, u138, u139, u140, u141, u142, u143, u144, u145, u146, u147, u148, u149, u150, u151, u152, u153, u154, u155, u156, u157, u158, u159, u160, u161, u162, u163, u164, u165, u166, u167, u168], []⟩ w := by
  dsimp only
  have H := Lib.hid HQ
  clear HQ
  have d1 : decide (1 ≤ rows) = false := by simp; omega
  conv => arg 2; whnf; arg 3; whnf
  go_wp2
  exact H.out _ _ _ _ _ _ _ _ _ _ _ _ _ _ _ _ _ _
end Go.Proofs.YtbiacjkkgddclaaGreat
