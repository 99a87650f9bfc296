/- TreeTells: the names, in the range over all nodes. TreeTells: the loop over the names, in the range over all nodes. TreeTells: regions 20 to 28 of the range over all nodes. TreeTells: the range over all nodes. -/
import Derived.Test.YtggpffipijoddaaDoorUaUbUc
import Derived.Sort.LoopGhostIn
namespace Go.Proofs.YtggpffipijoddaaDoor
open Go Go.RowKit Go.Shelf
attribute [local go_sem] Oper.semAt_some

theorem ld_ss {o : Oper} {ρ : Operand → Value} {w : World} (x : Operand) (ho : o.op = .load 55 x) (p : Addr) (hx : ρ x = .pointer (some p)) (v : Value) (hc : w.cell? p = some v) : (execOp ρ o).run Tryd.prog w = .ok (.value v) w := by
  unfold execOp
  simp only [ho, hx]
  simp [go_sem, hc]
theorem ix_atS {o : Oper} {ρ : Operand → Value} {w : World} (x y : Operand) (ho : o.op = .indexAddr 55 x y) (g ln cap i : Nat) (hx : ρ x = .slice (some ⟨g, 0, none⟩) ln cap) (hy : ρ y = .int .i64 i) (hi : i < ln) : (execOp ρ o).run Tryd.prog w = .ok (.value (.pointer (some ⟨g, i, none⟩))) w := by
  have h1 : (0 : Int) ≤ i := by omega
  have h2 : (i : Int) < ln := by omega
  unfold execOp
  simp only [ho, hx, hy]
  simp [go_sem, h1, h2]
theorem eqs_at {o : Oper} {ρ : Operand → Value} {w : World} (x y : Operand) (ho : o.op = .binOp .eql 9 x y 9) (a b : ByteArray) (hx : ρ x = .string a) (hy : ρ y = .string b) : (execOp ρ o).run Tryd.prog w = .ok (.value (.bool (decide (a.data.toList = b.data.toList)))) w := by
  unfold execOp
  simp only [ho, hx, hy]
  simp [go_sem]
  rw [Bool.eq_iff_iff, beq_iff_eq, decide_eq_true_iff, str_eq]
  exact ⟨fun h => by rw [h], fun h => ByteArray.ext h⟩
/-- the loop's region that draws. -/
def blk : Nat → Code → Code
  | k, .seq a b => match blk k a with | .skip => blk k b | c => c
  | k, .block j c => match Nat.beq k j with | true => c | false => blk k c
  | k, .loop c => blk k c
  | k, .cond _ x y => match blk k x with | .skip => blk k y | c => c
  | _, _ => .skip
set_option maxRecDepth 100000 in
set_option maxHeartbeats 2000000 in
theorem tells25_old (l n : Nat) (u0 u1 u4 u5 u12 u13 u14 u15 u16 u17 u18 u19 u20 u21 u22 u23 u24 u25 u26 u27 u28 u29 u30 u31 u32 u33 u34 u35 u36 u37 u38 u39 u40 u41 u42 u43 u44 u45 u46 u47 u48 u49 u50 u51 u52 u53 u54 u55 u56 u57 u58 u59 u60 u61 u62 u63 u64 u65 u66 u67 u68 u69 u70 u71 u72 u73 u74 u75 u76 u77 u78 u79 u80 u81 u82 u83 u84 u85 u86 u87 u88 u89 u90 u91 u92 u93 u94 u95 u96 u97 u98 u99 u100 u101 u102 u103 u104 u105 u106 u107 u108 u109 u110 u111 u112 u113 u114 u115 u116 u117 u118 u119 u120 u121 u122 u123 u124 u125 u126 u127 u128 u129 u130 u131 u132 u133 u134 u135 u136 u137 u138 u139 u140 u141 u142 u143 u144 u145 u146 u147 u148 u149 u150 u151 u152 u153 u154 u155 u156 u157 u158 u159 u160 u161 u162 u163 u164 : Value) (i b0 p3 pk pw pn q : Nat) (W : World) (Q : Exit → Act → World → Prop) (hLo : ¬ LetsOut Q)
    (hQ : ∀ (u0 u1 u4 u5 u12 u13 u14 u15 u16 u17 u18 u19 u20 u21 u22 u23 u24 u25 u26 u27 u28 u29 u30 u31 u32 u33 u34 u35 u36 u37 u38 u39 u40 u41 u42 u43 u44 u45 u46 u47 u48 u49 u50 u51 u52 u53 u54 u55 u56 u57 u58 u59 u60 u61 u62 u63 u64 u65 u66 u67 u68 u69 u70 u71 u72 u73 u74 u75 u76 u77 u78 u79 u80 u81 u82 u83 u84 u85 u86 u87 u88 u89 u90 u91 u92 u93 u94 u95 u96 u97 u98 u99 u100 u101 u102 u103 u104 u105 u106 u107 u108 u109 u110 u111 u112 u113 u114 u115 u116 u117 u118 u119 u120 u121 u122 u123 u124 u125 u126 u127 u128 u129 u130 u131 u132 u133 u134 u135 u136 u137 u138 u139 u140 u141 u142 u143 u144 u145 u146 u147 u148 u149 u150 u151 u152 u153 u154 u155 u156 u157 u158 u159 u160 u161 u162 u163 u164 : Value), Q .normal ⟨#[u0, u1, .pointer (some ⟨b0 + 1, 0, none⟩), .pointer (some ⟨p3, 0, none⟩), u4, u5, .pointer (some ⟨pk, 0, none⟩), .pointer (some ⟨pw, 0, none⟩), .pointer (some ⟨pn, 0, none⟩), .pointer (some ⟨q, 0, none⟩), .bool true, .int .i64 i, u12, u13, u14, u15, u16, u17, u18, u19, u20, u21, u22, u23, u24, u25, u26, u27, u28, u29, u30, u31, u32, u33, u34, u35, u36, u37, u38, u39, u40, u41, u42, u43, u44, u45, u46, u47, u48, u49, u50, u51, u52, u53, u54, u55, u56, u57, u58, u59, u60, u61, u62, u63, u64, u65, u66, u67, u68, u69, u70, u71, u72, u73, u74, u75, u76, u77, u78, u79, u80, u81, u82, u83, u84, u85, u86, u87, u88, u89, u90, u91, u92, u93, u94, u95, u96, u97, u98, u99, u100, u101, u102, u103, u104, u105, u106, u107, u108, u109, u110, u111, u112, u113, u114, u115, u116, u117, u118, u119, u120, u121, u122, u123, u124, u125, u126, u127, u128, u129, u130, u131, u132, u133, u134, u135, u136, u137, u138, u139, u140, u141, u142, u143, u144, u145, u146, u147, u148, u149, u150, u151, u152, u153, u154, u155, u156, u157, u158, u159, u160, u161, u162, u163, u164], []⟩ W.drew) :
    (blk 3 tellsB).wpIn (Fence.wide.inRound l) n Tryd.prog Q ⟨#[u0, u1, .pointer (some ⟨b0 + 1, 0, none⟩), .pointer (some ⟨p3, 0, none⟩), u4, u5, .pointer (some ⟨pk, 0, none⟩), .pointer (some ⟨pw, 0, none⟩), .pointer (some ⟨pn, 0, none⟩), .pointer (some ⟨q, 0, none⟩), .bool true, .int .i64 i, u12, u13, u14, u15, u16, u17, u18, u19, u20, u21, u22, u23, u24, u25, u26, u27, u28, u29, u30, u31, u32, u33, u34, u35, u36, u37, u38, u39, u40, u41, u42, u43, u44, u45, u46, u47, u48, u49, u50, u51, u52, u53, u54, u55, u56, u57, u58, u59, u60, u61, u62, u63, u64, u65, u66, u67, u68, u69, u70, u71, u72, u73, u74, u75, u76, u77, u78, u79, u80, u81, u82, u83, u84, u85, u86, u87, u88, u89, u90, u91, u92, u93, u94, u95, u96, u97, u98, u99, u100, u101, u102, u103, u104, u105, u106, u107, u108, u109, u110, u111, u112, u113, u114, u115, u116, u117, u118, u119, u120, u121, u122, u123, u124, u125, u126, u127, u128, u129, u130, u131, u132, u133, u134, u135, u136, u137, u138, u139, u140, u141, u142, u143, u144, u145, u146, u147, u148, u149, u150, u151, u152, u153, u154, u155, u156, u157, u158, u159, u160, u161, u162, u163, u164], []⟩ W := by
  dsimp only at hQ
  dsimp only
  generalize hf0 : Act.mk _ _ = f0
  conv => arg 4; whnf
  have HQ := Lib.hid hQ
  clear hQ
  refine wpIn_region_stillK (by kernel_rfl) (by kernel_rfl) hLo (by intro o ho c hc; simp only [List.mem_cons, List.not_mem_nil, or_false] at ho; rcases ho with rfl | rfl | rfl | rfl | rfl | rfl | rfl | rfl | rfl | rfl | rfl <;> cases hc) (fun Qx hQx => ?_)
  refine still_one (.bool true) (by rw [← hf0]; kernel_rfl) (by rw [← hf0]; kernel_rfl) (fun f1 h1 => ?_)
  refine still_one (.bool true) (by rw [h1, ← hf0]; kernel_rfl) (by rw [h1, ← hf0]; kernel_rfl) (fun f2 h2 => ?_)
  refine still_off (by rw [h2, h1, ← hf0]; kernel_rfl) (fun f3 h3 => ?_)
  refine still_off (by rw [h3, h2, h1, ← hf0]; kernel_rfl) (fun f4 h4 => ?_)
  refine still_off (by rw [h4, h3, h2, h1, ← hf0]; kernel_rfl) (fun f5 h5 => ?_)
  refine still_off (by rw [h5, h4, h3, h2, h1, ← hf0]; kernel_rfl) (fun f6 h6 => ?_)
  refine still_off (by rw [h6, h5, h4, h3, h2, h1, ← hf0]; kernel_rfl) (fun f7 h7 => ?_)
  refine still_off (by rw [h7, h6, h5, h4, h3, h2, h1, ← hf0]; kernel_rfl) (fun f8 h8 => ?_)
  refine still_off (by rw [h8, h7, h6, h5, h4, h3, h2, h1, ← hf0]; kernel_rfl) (fun f9 h9 => ?_)
  refine still_one (.bool true) (by rw [h9, h8, h7, h6, h5, h4, h3, h2, h1, ← hf0]; kernel_rfl) (by rw [h9, h8, h7, h6, h5, h4, h3, h2, h1, ← hf0]; kernel_rfl) (fun f10 h10 => ?_)
  refine still_one (.bool true) (by rw [h10, h9, h8, h7, h6, h5, h4, h3, h2, h1, ← hf0]; kernel_rfl) (by rw [h10, h9, h8, h7, h6, h5, h4, h3, h2, h1, ← hf0]; kernel_rfl) (fun f11 h11 => ?_)
  refine wpStill_nil (hQx _ ?_)
  have hf11 : f11 = ⟨#[u0, u1, .pointer (some ⟨b0 + 1, 0, none⟩), .pointer (some ⟨p3, 0, none⟩), u4, u5, .pointer (some ⟨pk, 0, none⟩), .pointer (some ⟨pw, 0, none⟩), .pointer (some ⟨pn, 0, none⟩), .pointer (some ⟨q, 0, none⟩), .bool true, .int .i64 i, u12, u13, u14, u15, u16, u17, u18, u19, u20, u21, u22, u23, u24, u25, u26, u27, u28, u29, u30, u31, u32, u33, u34, u35, u36, u37, u38, u39, u40, u41, u42, u43, u44, u45, u46, u47, u48, u49, u50, u51, u52, u53, u54, u55, u56, u57, u58, u59, u60, u61, u62, u63, u64, u65, u66, u67, u68, u69, u70, u71, u72, u73, u74, u75, u76, u77, u78, u79, u80, u81, u82, u83, u84, u85, u86, u87, u88, u89, u90, u91, u92, u93, u94, u95, u96, u97, .bool true, .bool true, undef, undef, undef, undef, undef, undef, undef, .bool true, u108, u109, u110, u111, u112, u113, u114, u115, u116, u117, u118, u119, u120, u121, u122, u123, u124, u125, u126, u127, u128, u129, u130, u131, u132, u133, u134, u135, u136, u137, u138, u139, u140, u141, u142, u143, u144, u145, u146, u147, u148, u149, u150, u151, u152, u153, u154, u155, u156, u157, u158, u159, u160, u161, u162, u163, u164], []⟩ := by rw [h11, h10, h9, h8, h7, h6, h5, h4, h3, h2, h1, ← hf0]; kernel_rfl
  dsimp only at hf11
  rw [hf11]
  clear hf11 h11 h10 h9 h8 h7 h6 h5 h4 h3 h2 h1 hf0 hQx f11 f10 f9 f8 f7 f6 f5 f4 f3 f2 f1 f0 Qx
  exact HQ.out _ _ _ _ _ _ _ _ _ _ _ _ _ _ _ _ _ _ _ _ _ _ _ _ _ _ _ _ _ _ _ _ _ _ _ _ _ _ _ _ _ _ _ _ _ _ _ _ _ _ _ _ _ _ _ _ _ _ _ _ _ _ _ _ _ _ _ _ _ _ _ _ _ _ _ _ _ _ _ _ _ _ _ _ _ _ _ _ _ _ _ _ _ _ _ _ _ _ _ _ _ _ _ _ _ _ _ _ _ _ _ _ _ _ _ _ _ _ _ _ _ _ _ _ _ _ _ _ _ _ _ _ _ _ _ _ _ _ _ _ _ _ _ _ _ _ _ _ _ _ _ _ _ _ _ _ _
set_option maxRecDepth 100000 in
set_option maxHeartbeats 2000000 in
theorem tells25_new (l n : Nat) (u0 u1 u4 u5 u12 u13 u14 u15 u16 u17 u18 u19 u20 u21 u22 u23 u24 u25 u26 u27 u28 u29 u30 u31 u32 u33 u34 u35 u36 u37 u38 u39 u40 u41 u42 u43 u44 u45 u46 u47 u48 u49 u50 u51 u52 u53 u54 u55 u56 u57 u58 u59 u60 u61 u62 u63 u64 u65 u66 u67 u68 u69 u70 u71 u72 u73 u74 u75 u76 u77 u78 u79 u80 u81 u82 u83 u84 u85 u86 u87 u88 u89 u90 u91 u92 u93 u94 u95 u96 u97 u98 u99 u100 u101 u102 u103 u104 u105 u106 u107 u108 u109 u110 u111 u112 u113 u114 u115 u116 u117 u118 u119 u120 u121 u122 u123 u124 u125 u126 u127 u128 u129 u130 u131 u132 u133 u134 u135 u136 u137 u138 u139 u140 u141 u142 u143 u144 u145 u146 u147 u148 u149 u150 u151 u152 u153 u154 u155 u156 u157 u158 u159 u160 u161 u162 u163 u164 : Value) (i b0 p3 pk pw pn q g len cap : Nat) (Aa : Option Addr) (ni nx : ByteArray) (W : World) (hcn : W.cell? ⟨pn, 0, none⟩ = some (.slice Aa len cap)) (hAa : Aa = some ⟨g, 0, none⟩) (hil : i < len) (hni : W.cell? ⟨g, i, none⟩ = some (.string ni)) (hnx : W.cell? ⟨q, 7, none⟩ = some (.string nx)) (eb : Bool) (heb : decide (ni.data.toList = nx.data.toList) = eb) (Q : Exit → Act → World → Prop) (hLo : ¬ LetsOut Q)
    (hQ : ∀ (u0 u1 u4 u5 u12 u13 u14 u15 u16 u17 u18 u19 u20 u21 u22 u23 u24 u25 u26 u27 u28 u29 u30 u31 u32 u33 u34 u35 u36 u37 u38 u39 u40 u41 u42 u43 u44 u45 u46 u47 u48 u49 u50 u51 u52 u53 u54 u55 u56 u57 u58 u59 u60 u61 u62 u63 u64 u65 u66 u67 u68 u69 u70 u71 u72 u73 u74 u75 u76 u77 u78 u79 u80 u81 u82 u83 u84 u85 u86 u87 u88 u89 u90 u91 u92 u93 u94 u95 u96 u97 u98 u99 u100 u101 u102 u103 u104 u105 u106 u107 u108 u109 u110 u111 u112 u113 u114 u115 u116 u117 u118 u119 u120 u121 u122 u123 u124 u125 u126 u127 u128 u129 u130 u131 u132 u133 u134 u135 u136 u137 u138 u139 u140 u141 u142 u143 u144 u145 u146 u147 u148 u149 u150 u151 u152 u153 u154 u155 u156 u157 u158 u159 u160 u161 u162 u163 u164 : Value), Q .normal ⟨#[u0, u1, .pointer (some ⟨b0 + 1, 0, none⟩), .pointer (some ⟨p3, 0, none⟩), u4, u5, .pointer (some ⟨pk, 0, none⟩), .pointer (some ⟨pw, 0, none⟩), .pointer (some ⟨pn, 0, none⟩), .pointer (some ⟨q, 0, none⟩), .bool eb, .int .i64 i, u12, u13, u14, u15, u16, u17, u18, u19, u20, u21, u22, u23, u24, u25, u26, u27, u28, u29, u30, u31, u32, u33, u34, u35, u36, u37, u38, u39, u40, u41, u42, u43, u44, u45, u46, u47, u48, u49, u50, u51, u52, u53, u54, u55, u56, u57, u58, u59, u60, u61, u62, u63, u64, u65, u66, u67, u68, u69, u70, u71, u72, u73, u74, u75, u76, u77, u78, u79, u80, u81, u82, u83, u84, u85, u86, u87, u88, u89, u90, u91, u92, u93, u94, u95, u96, u97, u98, u99, u100, u101, u102, u103, u104, u105, u106, u107, u108, u109, u110, u111, u112, u113, u114, u115, u116, u117, u118, u119, u120, u121, u122, u123, u124, u125, u126, u127, u128, u129, u130, u131, u132, u133, u134, u135, u136, u137, u138, u139, u140, u141, u142, u143, u144, u145, u146, u147, u148, u149, u150, u151, u152, u153, u154, u155, u156, u157, u158, u159, u160, u161, u162, u163, u164], []⟩ W.drew) :
    (blk 3 tellsB).wpIn (Fence.wide.inRound l) n Tryd.prog Q ⟨#[u0, u1, .pointer (some ⟨b0 + 1, 0, none⟩), .pointer (some ⟨p3, 0, none⟩), u4, u5, .pointer (some ⟨pk, 0, none⟩), .pointer (some ⟨pw, 0, none⟩), .pointer (some ⟨pn, 0, none⟩), .pointer (some ⟨q, 0, none⟩), .bool false, .int .i64 i, u12, u13, u14, u15, u16, u17, u18, u19, u20, u21, u22, u23, u24, u25, u26, u27, u28, u29, u30, u31, u32, u33, u34, u35, u36, u37, u38, u39, u40, u41, u42, u43, u44, u45, u46, u47, u48, u49, u50, u51, u52, u53, u54, u55, u56, u57, u58, u59, u60, u61, u62, u63, u64, u65, u66, u67, u68, u69, u70, u71, u72, u73, u74, u75, u76, u77, u78, u79, u80, u81, u82, u83, u84, u85, u86, u87, u88, u89, u90, u91, u92, u93, u94, u95, u96, u97, u98, u99, u100, u101, u102, u103, u104, u105, u106, u107, u108, u109, u110, u111, u112, u113, u114, u115, u116, u117, u118, u119, u120, u121, u122, u123, u124, u125, u126, u127, u128, u129, u130, u131, u132, u133, u134, u135, u136, u137, u138, u139, u140, u141, u142, u143, u144, u145, u146, u147, u148, u149, u150, u151, u152, u153, u154, u155, u156, u157, u158, u159, u160, u161, u162, u163, u164], []⟩ W := by
  dsimp only at hQ
  dsimp only
  generalize hf0 : Act.mk _ _ = f0
  conv => arg 4; whnf
  have HQ := Lib.hid hQ
  have HAA := Lib.hid hAa
  clear hQ hAa
  refine wpIn_region_stillK (by kernel_rfl) (by kernel_rfl) hLo (by intro o ho c hc; simp only [List.mem_cons, List.not_mem_nil, or_false] at ho; rcases ho with rfl | rfl | rfl | rfl | rfl | rfl | rfl | rfl | rfl | rfl | rfl <;> cases hc) (fun Qx hQx => ?_)
  refine still_one (.bool false) (by rw [← hf0]; kernel_rfl) (by rw [← hf0]; kernel_rfl) (fun f1 h1 => ?_)
  refine still_one (.bool false) (by rw [h1, ← hf0]; kernel_rfl) (by rw [h1, ← hf0]; kernel_rfl) (fun f2 h2 => ?_)
  refine still_one (.slice Aa len cap) (by rw [h2, h1, ← hf0]; kernel_rfl) (ld_ss _ rfl ⟨pn, 0, none⟩ (by rw [h2, h1, ← hf0]; kernel_rfl) _ hcn) (fun f3 h3 => ?_)
  refine still_one (.int .i64 i) (by rw [h3, h2, h1, ← hf0]; kernel_rfl) (by rw [h3, h2, h1, ← hf0]; kernel_rfl) (fun f4 h4 => ?_)
  refine still_one (.pointer (some ⟨g, i, none⟩)) (by rw [h4, h3, h2, h1, ← hf0]; kernel_rfl) (ix_atS _ _ rfl g len cap i (by rw [h4, h3, h2, h1, ← hf0, HAA.out]; kernel_rfl) (by rw [h4, h3, h2, h1, ← hf0]; kernel_rfl) hil) (fun f5 h5 => ?_)
  refine still_one (.string ni) (by rw [h5, h4, h3, h2, h1, ← hf0]; kernel_rfl) (ld_str _ rfl ⟨g, i, none⟩ (by rw [h5, h4, h3, h2, h1, ← hf0]; kernel_rfl) _ hni) (fun f6 h6 => ?_)
  refine still_one (.pointer (some ⟨q, 7, none⟩)) (by rw [h6, h5, h4, h3, h2, h1, ← hf0]; kernel_rfl) (by rw [h6, h5, h4, h3, h2, h1, ← hf0]; kernel_rfl) (fun f7 h7 => ?_)
  refine still_one (.string nx) (by rw [h7, h6, h5, h4, h3, h2, h1, ← hf0]; kernel_rfl) (ld_str _ rfl ⟨q, 7, none⟩ (by rw [h7, h6, h5, h4, h3, h2, h1, ← hf0]; kernel_rfl) _ hnx) (fun f8 h8 => ?_)
  refine still_one (.bool eb) (by rw [h8, h7, h6, h5, h4, h3, h2, h1, ← hf0]; kernel_rfl) ((eqs_at _ _ rfl ni nx (by rw [h8, h7, h6, h5, h4, h3, h2, h1, ← hf0]; kernel_rfl) (by rw [h8, h7, h6, h5, h4, h3, h2, h1, ← hf0]; kernel_rfl)).trans (by rw [heb])) (fun f9 h9 => ?_)
  refine still_one (.bool eb) (by rw [h9, h8, h7, h6, h5, h4, h3, h2, h1, ← hf0]; kernel_rfl) (by rw [h9, h8, h7, h6, h5, h4, h3, h2, h1, ← hf0]; kernel_rfl) (fun f10 h10 => ?_)
  refine still_one (.bool eb) (by rw [h10, h9, h8, h7, h6, h5, h4, h3, h2, h1, ← hf0]; kernel_rfl) (by rw [h10, h9, h8, h7, h6, h5, h4, h3, h2, h1, ← hf0]; kernel_rfl) (fun f11 h11 => ?_)
  refine wpStill_nil (hQx _ ?_)
  have hf11 : f11 = ⟨#[u0, u1, .pointer (some ⟨b0 + 1, 0, none⟩), .pointer (some ⟨p3, 0, none⟩), u4, u5, .pointer (some ⟨pk, 0, none⟩), .pointer (some ⟨pw, 0, none⟩), .pointer (some ⟨pn, 0, none⟩), .pointer (some ⟨q, 0, none⟩), .bool eb, .int .i64 i, u12, u13, u14, u15, u16, u17, u18, u19, u20, u21, u22, u23, u24, u25, u26, u27, u28, u29, u30, u31, u32, u33, u34, u35, u36, u37, u38, u39, u40, u41, u42, u43, u44, u45, u46, u47, u48, u49, u50, u51, u52, u53, u54, u55, u56, u57, u58, u59, u60, u61, u62, u63, u64, u65, u66, u67, u68, u69, u70, u71, u72, u73, u74, u75, u76, u77, u78, u79, u80, u81, u82, u83, u84, u85, u86, u87, u88, u89, u90, u91, u92, u93, u94, u95, u96, u97, .bool false, .bool false, .slice Aa len cap, .int .i64 i, .pointer (some ⟨g, i, none⟩), .string ni, .pointer (some ⟨q, 7, none⟩), .string nx, .bool eb, .bool eb, u108, u109, u110, u111, u112, u113, u114, u115, u116, u117, u118, u119, u120, u121, u122, u123, u124, u125, u126, u127, u128, u129, u130, u131, u132, u133, u134, u135, u136, u137, u138, u139, u140, u141, u142, u143, u144, u145, u146, u147, u148, u149, u150, u151, u152, u153, u154, u155, u156, u157, u158, u159, u160, u161, u162, u163, u164], []⟩ := by rw [h11, h10, h9, h8, h7, h6, h5, h4, h3, h2, h1, ← hf0]; kernel_rfl
  dsimp only at hf11
  rw [hf11]
  clear hf11 h11 h10 h9 h8 h7 h6 h5 h4 h3 h2 h1 hf0 hQx f11 f10 f9 f8 f7 f6 f5 f4 f3 f2 f1 f0 Qx
  exact HQ.out _ _ _ _ _ _ _ _ _ _ _ _ _ _ _ _ _ _ _ _ _ _ _ _ _ _ _ _ _ _ _ _ _ _ _ _ _ _ _ _ _ _ _ _ _ _ _ _ _ _ _ _ _ _ _ _ _ _ _ _ _ _ _ _ _ _ _ _ _ _ _ _ _ _ _ _ _ _ _ _ _ _ _ _ _ _ _ _ _ _ _ _ _ _ _ _ _ _ _ _ _ _ _ _ _ _ _ _ _ _ _ _ _ _ _ _ _ _ _ _ _ _ _ _ _ _ _ _ _ _ _ _ _ _ _ _ _ _ _ _ _ _ _ _ _ _ _ _ _ _ _ _ _ _ _ _ _
end Go.Proofs.YtggpffipijoddaaDoor
namespace Go.Proofs.YtggpffipijoddaaDoor
open Go Go.RowKit Go.Shelf
attribute [local go_sem] Oper.semAt_some

theorem cell_lt {W : World} {p : Addr} {v : Value} (h : W.cell? p = some v) : p.block < W.heap.size := by
  by_cases hl : p.block < W.heap.size
  · exact hl
  · have h1 : W.heap[p.block]? = none := Array.getElem?_eq_none (by omega)
    simp [World.cell?, h1] at h
theorem inB_succ (nx : ByteArray) (nm : List ByteArray) (i : Nat) (h : i < nm.length) : inB nx (nm.take (i + 1)) = (inB nx (nm.take i) || decide (nm[i].data.toList = nx.data.toList)) := by
  unfold inB
  rw [List.take_succ_eq_append_getElem h, List.any_append]
  simp
set_option maxRecDepth 100000 in
set_option maxHeartbeats 4000000 in
theorem names_round (l n : Nat) (u0 u1 u4 u5 u12 u13 u14 u15 u16 u17 u18 u19 u20 u21 u22 u23 u24 u25 u26 u27 u28 u29 u30 u31 u32 u33 u34 u35 u36 u37 u38 u39 u40 u41 u42 u43 u44 u45 u46 u47 u48 u49 u50 u51 u52 u53 u54 u55 u56 u57 u58 u59 u60 u61 u62 u63 u64 u65 u66 u67 u68 u69 u70 u71 u72 u73 u74 u75 u76 u77 u78 u79 u80 u81 u82 u83 u84 u85 u86 u87 u88 u89 u90 u91 u92 u93 u94 u95 u96 u97 u98 u99 u100 u101 u102 u103 u104 u105 u106 u107 u108 u109 u110 u111 u112 u113 u114 u115 u116 u117 u118 u119 u120 u121 u122 u123 u124 u125 u126 u127 u128 u129 u130 u131 u132 u133 u134 u135 u136 u137 u138 u139 u140 u141 u142 u143 u144 u145 u146 u147 u148 u149 u150 u151 u152 u153 u154 u155 u156 u157 u158 u159 u160 u161 u162 u163 u164 : Value) (i : Nat) (b0 p3 pk pw pn q cap : Nat) (Aa : Option Addr) (nm : List ByteArray) (nx : ByteArray) (W : World) (hcn : W.cell? ⟨pn, 0, none⟩ = some (.slice Aa nm.length cap)) (hrow : ∀ i (hi : i < nm.length), ∃ g, Aa = some ⟨g, 0, none⟩ ∧ W.cell? ⟨g, i, none⟩ = some (.string nm[i])) (hnx : W.cell? ⟨q, 7, none⟩ = some (.string nx)) (hlen : nm.length < 1000000) (hi : i < nm.length) (K : Act → World → Prop) (Q : Exit → Act → World → Prop) (hLo : ¬ LetsOut Q)
    (hK : ∀ (u0 u1 u4 u5 u12 u13 u14 u15 u16 u17 u18 u19 u20 u21 u22 u23 u24 u25 u26 u27 u28 u29 u30 u31 u32 u33 u34 u35 u36 u37 u38 u39 u40 u41 u42 u43 u44 u45 u46 u47 u48 u49 u50 u51 u52 u53 u54 u55 u56 u57 u58 u59 u60 u61 u62 u63 u64 u65 u66 u67 u68 u69 u70 u71 u72 u73 u74 u75 u76 u77 u78 u79 u80 u81 u82 u83 u84 u85 u86 u87 u88 u89 u90 u91 u92 u93 u94 u95 u96 u97 u98 u99 u100 u101 u102 u103 u104 u105 u106 u107 u108 u109 u110 u111 u112 u113 u114 u115 u116 u117 u118 u119 u120 u121 u122 u123 u124 u125 u126 u127 u128 u129 u130 u131 u132 u133 u134 u135 u136 u137 u138 u139 u140 u141 u142 u143 u144 u145 u146 u147 u148 u149 u150 u151 u152 u153 u154 u155 u156 u157 u158 u159 u160 u161 u162 u163 u164 : Value), K ⟨#[u0, u1, .pointer (some ⟨b0 + 1, 0, none⟩), .pointer (some ⟨p3, 0, none⟩), u4, u5, .pointer (some ⟨pk, 0, none⟩), .pointer (some ⟨pw, 0, none⟩), .pointer (some ⟨pn, 0, none⟩), .pointer (some ⟨q, 0, none⟩), .bool (inB nx (nm.take (i + 1))), .int .i64 ((i + 1 : Nat) : Int), u12, u13, u14, u15, u16, u17, u18, u19, u20, u21, u22, u23, u24, u25, u26, u27, u28, u29, u30, u31, u32, u33, u34, u35, u36, u37, u38, u39, u40, u41, u42, u43, u44, u45, u46, u47, u48, u49, u50, u51, u52, u53, u54, u55, u56, u57, u58, u59, u60, u61, u62, u63, u64, u65, u66, u67, u68, u69, u70, u71, u72, u73, u74, u75, u76, u77, u78, u79, u80, u81, u82, u83, u84, u85, u86, u87, u88, u89, u90, u91, u92, u93, u94, u95, u96, u97, u98, u99, u100, u101, u102, u103, u104, u105, u106, u107, u108, u109, u110, u111, u112, u113, u114, u115, u116, u117, u118, u119, u120, u121, u122, u123, u124, u125, u126, u127, u128, u129, u130, u131, u132, u133, u134, u135, u136, u137, u138, u139, u140, u141, u142, u143, u144, u145, u146, u147, u148, u149, u150, u151, u152, u153, u154, u155, u156, u157, u158, u159, u160, u161, u162, u163, u164], []⟩ W.drew) :
    (lpBody (lp1 tellsB)).wpIn (Fence.wide.inRound l) n Tryd.prog (Exit.then K Q) ⟨#[u0, u1, .pointer (some ⟨b0 + 1, 0, none⟩), .pointer (some ⟨p3, 0, none⟩), u4, u5, .pointer (some ⟨pk, 0, none⟩), .pointer (some ⟨pw, 0, none⟩), .pointer (some ⟨pn, 0, none⟩), .pointer (some ⟨q, 0, none⟩), .bool (inB nx (nm.take (i))), .int .i64 (i), u12, u13, u14, u15, u16, u17, u18, u19, u20, u21, u22, u23, u24, u25, u26, u27, u28, u29, u30, u31, u32, u33, u34, u35, u36, u37, u38, u39, u40, u41, u42, u43, u44, u45, u46, u47, u48, u49, u50, u51, u52, u53, u54, u55, u56, u57, u58, u59, u60, u61, u62, u63, u64, u65, u66, u67, u68, u69, u70, u71, u72, u73, u74, u75, u76, u77, u78, u79, u80, u81, u82, u83, u84, u85, u86, u87, u88, u89, u90, u91, u92, u93, u94, u95, u96, u97, u98, u99, u100, u101, u102, u103, u104, u105, u106, u107, u108, u109, u110, u111, u112, u113, u114, u115, u116, u117, u118, u119, u120, u121, u122, u123, u124, u125, u126, u127, u128, u129, u130, u131, u132, u133, u134, u135, u136, u137, u138, u139, u140, u141, u142, u143, u144, u145, u146, u147, u148, u149, u150, u151, u152, u153, u154, u155, u156, u157, u158, u159, u160, u161, u162, u163, u164], []⟩ W := by
  dsimp only at hK
  dsimp only
  conv => arg 4; whnf
  have hs := inB_succ nx nm i hi
  obtain ⟨g, hAa, hni⟩ := hrow i hi
  rw [hs] at hK
  have HK := Lib.hid hK
  have HLO := Lib.hid hLo
  obtain ⟨ni, hnie⟩ : ∃ ni, ni = nm[i] := ⟨_, rfl⟩
  rw [← hnie] at hni
  have HNE := Lib.hid hnie
  obtain ⟨len, hle⟩ : ∃ len, len = nm.length := ⟨_, rfl⟩
  rw [← hle] at hcn hi hlen
  obtain ⟨ob, hob⟩ : ∃ ob, ob = inB nx (nm.take i) := ⟨_, rfl⟩
  rw [← hob]
  have HOB := Lib.hid hob
  have hlt1 : (i : Int) < len := by omega
  have hl63 : len ≤ 9223372036854775807 := by omega
  have hov : (i : Int) + 1 ≤ 9223372036854775807 := by omega
  have HHI := Lib.hid hi
  have HHN := Lib.hid hni
  have HHX := Lib.hid hnx
  have HHA := Lib.hid hAa
  have HHC := Lib.hid hcn
  clear hs hrow hK hLo hnie hob hni hnx hAa
  refine wpIn_seq ?_
  refine wpIn_seq ?_
  refine wpIn_region_lit ?_
  refine wpListIn_of (by rintro ⟨a', w', h⟩; exact HLO.out ⟨a', w', h⟩) _ _ _ (by intro o ho c hc; simp only [List.mem_cons, List.not_mem_nil, or_false] at ho; rcases ho with rfl | rfl | rfl | rfl <;> cases hc) ?_
  go_wp2
  refine wpIn_cond_true rfl ?_
  refine wpIn_skip ?_
  change Code.wpIn _ _ _ _ _ _ W
  refine wpIn_seq ?_
  refine wpIn_block ?_
  clear hcn
  cases ob with
  | true =>
    refine tells25_old l n _ _ _ _ _ _ _ _ _ _ _ _ _ _ _ _ _ _ _ _ _ _ _ _ _ _ _ _ _ _ _ _ _ _ _ _ _ _ _ _ _ _ _ _ _ _ _ _ _ _ _ _ _ _ _ _ _ _ _ _ _ _ _ _ _ _ _ _ _ _ _ _ _ _ _ _ _ _ _ _ _ _ _ _ _ _ _ _ _ _ _ _ _ _ _ _ _ _ _ _ _ _ _ _ _ _ _ _ _ _ _ _ _ _ _ _ _ _ _ _ _ _ _ _ _ _ _ _ _ _ _ _ _ _ _ _ _ _ _ _ _ _ _ _ _ _ _ _ _ _ _ _ _ _ _ _ _ i b0 p3 pk pw pn q W _ (by rintro ⟨a', w', h⟩; exact HLO.out ⟨a', w', h⟩) ?_
    intro u0 u1 u4 u5 u12 u13 u14 u15 u16 u17 u18 u19 u20 u21 u22 u23 u24 u25 u26 u27 u28 u29 u30 u31 u32 u33 u34 u35 u36 u37 u38 u39 u40 u41 u42 u43 u44 u45 u46 u47 u48 u49 u50 u51 u52 u53 u54 u55 u56 u57 u58 u59 u60 u61 u62 u63 u64 u65 u66 u67 u68 u69 u70 u71 u72 u73 u74 u75 u76 u77 u78 u79 u80 u81 u82 u83 u84 u85 u86 u87 u88 u89 u90 u91 u92 u93 u94 u95 u96 u97 u98 u99 u100 u101 u102 u103 u104 u105 u106 u107 u108 u109 u110 u111 u112 u113 u114 u115 u116 u117 u118 u119 u120 u121 u122 u123 u124 u125 u126 u127 u128 u129 u130 u131 u132 u133 u134 u135 u136 u137 u138 u139 u140 u141 u142 u143 u144 u145 u146 u147 u148 u149 u150 u151 u152 u153 u154 u155 u156 u157 u158 u159 u160 u161 u162 u163 u164
    gi_wp2
    have hk2 := HK.out
    rw [← HOB.out, Bool.true_or] at hk2
    have e3 : (i : Int) + 1 = ((i + 1 : Nat) : Int) := by omega
    rw [e3]
    exact hk2 _ _ _ _ _ _ _ _ _ _ _ _ _ _ _ _ _ _ _ _ _ _ _ _ _ _ _ _ _ _ _ _ _ _ _ _ _ _ _ _ _ _ _ _ _ _ _ _ _ _ _ _ _ _ _ _ _ _ _ _ _ _ _ _ _ _ _ _ _ _ _ _ _ _ _ _ _ _ _ _ _ _ _ _ _ _ _ _ _ _ _ _ _ _ _ _ _ _ _ _ _ _ _ _ _ _ _ _ _ _ _ _ _ _ _ _ _ _ _ _ _ _ _ _ _ _ _ _ _ _ _ _ _ _ _ _ _ _ _ _ _ _ _ _ _ _ _ _ _ _ _ _ _ _ _ _ _
  | false =>
    obtain ⟨eb, heb⟩ : ∃ eb, eb = decide (ni.data.toList = nx.data.toList) := ⟨_, rfl⟩
    have HEB := Lib.hid heb
    refine tells25_new l n _ _ _ _ _ _ _ _ _ _ _ _ _ _ _ _ _ _ _ _ _ _ _ _ _ _ _ _ _ _ _ _ _ _ _ _ _ _ _ _ _ _ _ _ _ _ _ _ _ _ _ _ _ _ _ _ _ _ _ _ _ _ _ _ _ _ _ _ _ _ _ _ _ _ _ _ _ _ _ _ _ _ _ _ _ _ _ _ _ _ _ _ _ _ _ _ _ _ _ _ _ _ _ _ _ _ _ _ _ _ _ _ _ _ _ _ _ _ _ _ _ _ _ _ _ _ _ _ _ _ _ _ _ _ _ _ _ _ _ _ _ _ _ _ _ _ _ _ _ _ _ _ _ _ _ _ _ i b0 p3 pk pw pn q g len cap Aa ni nx W HHC.out HHA.out HHI.out HHN.out HHX.out eb heb.symm _ (by rintro ⟨a', w', h⟩; exact HLO.out ⟨a', w', h⟩) ?_
    clear heb
    intro u0 u1 u4 u5 u12 u13 u14 u15 u16 u17 u18 u19 u20 u21 u22 u23 u24 u25 u26 u27 u28 u29 u30 u31 u32 u33 u34 u35 u36 u37 u38 u39 u40 u41 u42 u43 u44 u45 u46 u47 u48 u49 u50 u51 u52 u53 u54 u55 u56 u57 u58 u59 u60 u61 u62 u63 u64 u65 u66 u67 u68 u69 u70 u71 u72 u73 u74 u75 u76 u77 u78 u79 u80 u81 u82 u83 u84 u85 u86 u87 u88 u89 u90 u91 u92 u93 u94 u95 u96 u97 u98 u99 u100 u101 u102 u103 u104 u105 u106 u107 u108 u109 u110 u111 u112 u113 u114 u115 u116 u117 u118 u119 u120 u121 u122 u123 u124 u125 u126 u127 u128 u129 u130 u131 u132 u133 u134 u135 u136 u137 u138 u139 u140 u141 u142 u143 u144 u145 u146 u147 u148 u149 u150 u151 u152 u153 u154 u155 u156 u157 u158 u159 u160 u161 u162 u163 u164
    gi_wp2
    have hk2 := HK.out
    rw [← HOB.out, Bool.false_or, ← HNE.out, ← HEB.out] at hk2
    have e3 : (i : Int) + 1 = ((i + 1 : Nat) : Int) := by omega
    rw [e3]
    exact hk2 _ _ _ _ _ _ _ _ _ _ _ _ _ _ _ _ _ _ _ _ _ _ _ _ _ _ _ _ _ _ _ _ _ _ _ _ _ _ _ _ _ _ _ _ _ _ _ _ _ _ _ _ _ _ _ _ _ _ _ _ _ _ _ _ _ _ _ _ _ _ _ _ _ _ _ _ _ _ _ _ _ _ _ _ _ _ _ _ _ _ _ _ _ _ _ _ _ _ _ _ _ _ _ _ _ _ _ _ _ _ _ _ _ _ _ _ _ _ _ _ _ _ _ _ _ _ _ _ _ _ _ _ _ _ _ _ _ _ _ _ _ _ _ _ _ _ _ _ _ _ _ _ _ _ _ _ _

set_option maxRecDepth 100000 in
set_option maxHeartbeats 4000000 in
theorem names_exit (l n : Nat) (u0 u1 u4 u5 u12 u13 u14 u15 u16 u17 u18 u19 u20 u21 u22 u23 u24 u25 u26 u27 u28 u29 u30 u31 u32 u33 u34 u35 u36 u37 u38 u39 u40 u41 u42 u43 u44 u45 u46 u47 u48 u49 u50 u51 u52 u53 u54 u55 u56 u57 u58 u59 u60 u61 u62 u63 u64 u65 u66 u67 u68 u69 u70 u71 u72 u73 u74 u75 u76 u77 u78 u79 u80 u81 u82 u83 u84 u85 u86 u87 u88 u89 u90 u91 u92 u93 u94 u95 u96 u97 u98 u99 u100 u101 u102 u103 u104 u105 u106 u107 u108 u109 u110 u111 u112 u113 u114 u115 u116 u117 u118 u119 u120 u121 u122 u123 u124 u125 u126 u127 u128 u129 u130 u131 u132 u133 u134 u135 u136 u137 u138 u139 u140 u141 u142 u143 u144 u145 u146 u147 u148 u149 u150 u151 u152 u153 u154 u155 u156 u157 u158 u159 u160 u161 u162 u163 u164 : Value) (i : Nat) (b0 p3 pk pw pn q cap : Nat) (Aa : Option Addr) (nm : List ByteArray) (nx : ByteArray) (W : World) (hcn : W.cell? ⟨pn, 0, none⟩ = some (.slice Aa nm.length cap)) (_hrow : ∀ i (hi : i < nm.length), ∃ g, Aa = some ⟨g, 0, none⟩ ∧ W.cell? ⟨g, i, none⟩ = some (.string nm[i])) (_hnx : W.cell? ⟨q, 7, none⟩ = some (.string nx)) (hlen : nm.length < 1000000) (hi : i = nm.length) (K : Act → World → Prop) (Q : Exit → Act → World → Prop) (hLo : ¬ LetsOut Q)
    (hQ : ∀ (u0 u1 u4 u5 u12 u13 u14 u15 u16 u17 u18 u19 u20 u21 u22 u23 u24 u25 u26 u27 u28 u29 u30 u31 u32 u33 u34 u35 u36 u37 u38 u39 u40 u41 u42 u43 u44 u45 u46 u47 u48 u49 u50 u51 u52 u53 u54 u55 u56 u57 u58 u59 u60 u61 u62 u63 u64 u65 u66 u67 u68 u69 u70 u71 u72 u73 u74 u75 u76 u77 u78 u79 u80 u81 u82 u83 u84 u85 u86 u87 u88 u89 u90 u91 u92 u93 u94 u95 u96 u97 u98 u99 u100 u101 u102 u103 u104 u105 u106 u107 u108 u109 u110 u111 u112 u113 u114 u115 u116 u117 u118 u119 u120 u121 u122 u123 u124 u125 u126 u127 u128 u129 u130 u131 u132 u133 u134 u135 u136 u137 u138 u139 u140 u141 u142 u143 u144 u145 u146 u147 u148 u149 u150 u151 u152 u153 u154 u155 u156 u157 u158 u159 u160 u161 u162 u163 u164 : Value), Q (.exit 2) ⟨#[u0, u1, .pointer (some ⟨b0 + 1, 0, none⟩), .pointer (some ⟨p3, 0, none⟩), u4, u5, .pointer (some ⟨pk, 0, none⟩), .pointer (some ⟨pw, 0, none⟩), .pointer (some ⟨pn, 0, none⟩), .pointer (some ⟨q, 0, none⟩), .bool (inB nx (nm.take (i))), .int .i64 (i), u12, u13, u14, u15, u16, u17, u18, u19, u20, u21, u22, u23, u24, u25, u26, u27, u28, u29, u30, u31, u32, u33, u34, u35, u36, u37, u38, u39, u40, u41, u42, u43, u44, u45, u46, u47, u48, u49, u50, u51, u52, u53, u54, u55, u56, u57, u58, u59, u60, u61, u62, u63, u64, u65, u66, u67, u68, u69, u70, u71, u72, u73, u74, u75, u76, u77, u78, u79, u80, u81, u82, u83, u84, u85, u86, u87, u88, u89, u90, u91, u92, u93, u94, u95, u96, u97, u98, u99, u100, u101, u102, u103, u104, u105, u106, u107, u108, u109, u110, u111, u112, u113, u114, u115, u116, u117, u118, u119, u120, u121, u122, u123, u124, u125, u126, u127, u128, u129, u130, u131, u132, u133, u134, u135, u136, u137, u138, u139, u140, u141, u142, u143, u144, u145, u146, u147, u148, u149, u150, u151, u152, u153, u154, u155, u156, u157, u158, u159, u160, u161, u162, u163, u164], []⟩ W) :
    (lpBody (lp1 tellsB)).wpIn (Fence.wide.inRound l) n Tryd.prog (Exit.then K Q) ⟨#[u0, u1, .pointer (some ⟨b0 + 1, 0, none⟩), .pointer (some ⟨p3, 0, none⟩), u4, u5, .pointer (some ⟨pk, 0, none⟩), .pointer (some ⟨pw, 0, none⟩), .pointer (some ⟨pn, 0, none⟩), .pointer (some ⟨q, 0, none⟩), .bool (inB nx (nm.take (i))), .int .i64 (i), u12, u13, u14, u15, u16, u17, u18, u19, u20, u21, u22, u23, u24, u25, u26, u27, u28, u29, u30, u31, u32, u33, u34, u35, u36, u37, u38, u39, u40, u41, u42, u43, u44, u45, u46, u47, u48, u49, u50, u51, u52, u53, u54, u55, u56, u57, u58, u59, u60, u61, u62, u63, u64, u65, u66, u67, u68, u69, u70, u71, u72, u73, u74, u75, u76, u77, u78, u79, u80, u81, u82, u83, u84, u85, u86, u87, u88, u89, u90, u91, u92, u93, u94, u95, u96, u97, u98, u99, u100, u101, u102, u103, u104, u105, u106, u107, u108, u109, u110, u111, u112, u113, u114, u115, u116, u117, u118, u119, u120, u121, u122, u123, u124, u125, u126, u127, u128, u129, u130, u131, u132, u133, u134, u135, u136, u137, u138, u139, u140, u141, u142, u143, u144, u145, u146, u147, u148, u149, u150, u151, u152, u153, u154, u155, u156, u157, u158, u159, u160, u161, u162, u163, u164], []⟩ W := by
  dsimp only at hQ
  dsimp only
  conv => arg 4; whnf
  have HQ := Lib.hid hQ
  have HLO := Lib.hid hLo
  obtain ⟨ob, hob⟩ : ∃ ob, ob = inB nx (nm.take i) := ⟨_, rfl⟩
  rw [← hob] at HQ ⊢
  obtain ⟨len, hle⟩ : ∃ len, len = nm.length := ⟨_, rfl⟩
  rw [← hle] at hcn hi hlen
  subst hi
  have hl63 : i ≤ 9223372036854775807 := by omega
  clear _hrow _hnx hQ hLo hob hle
  refine wpIn_seq ?_
  refine wpIn_seq ?_
  refine wpIn_region_lit ?_
  refine wpListIn_of (by rintro ⟨a', w', h⟩; exact HLO.out ⟨a', w', h⟩) _ _ _ (by intro o ho c hc; simp only [List.mem_cons, List.not_mem_nil, or_false] at ho; rcases ho with rfl | rfl | rfl | rfl <;> cases hc) ?_
  go_wp2
  refine wpIn_cond_false rfl ?_
  refine wpIn_exit ?_
  exact HQ.out _ _ _ _ _ _ _ _ _ _ _ _ _ _ _ _ _ _ _ _ _ _ _ _ _ _ _ _ _ _ _ _ _ _ _ _ _ _ _ _ _ _ _ _ _ _ _ _ _ _ _ _ _ _ _ _ _ _ _ _ _ _ _ _ _ _ _ _ _ _ _ _ _ _ _ _ _ _ _ _ _ _ _ _ _ _ _ _ _ _ _ _ _ _ _ _ _ _ _ _ _ _ _ _ _ _ _ _ _ _ _ _ _ _ _ _ _ _ _ _ _ _ _ _ _ _ _ _ _ _ _ _ _ _ _ _ _ _ _ _ _ _ _ _ _ _ _ _ _ _ _ _ _ _ _ _ _

set_option maxRecDepth 100000 in
set_option maxHeartbeats 4000000 in
theorem names_loop (l n : Nat) (u0 u1 u4 u5 u12 u13 u14 u15 u16 u17 u18 u19 u20 u21 u22 u23 u24 u25 u26 u27 u28 u29 u30 u31 u32 u33 u34 u35 u36 u37 u38 u39 u40 u41 u42 u43 u44 u45 u46 u47 u48 u49 u50 u51 u52 u53 u54 u55 u56 u57 u58 u59 u60 u61 u62 u63 u64 u65 u66 u67 u68 u69 u70 u71 u72 u73 u74 u75 u76 u77 u78 u79 u80 u81 u82 u83 u84 u85 u86 u87 u88 u89 u90 u91 u92 u93 u94 u95 u96 u97 u98 u99 u100 u101 u102 u103 u104 u105 u106 u107 u108 u109 u110 u111 u112 u113 u114 u115 u116 u117 u118 u119 u120 u121 u122 u123 u124 u125 u126 u127 u128 u129 u130 u131 u132 u133 u134 u135 u136 u137 u138 u139 u140 u141 u142 u143 u144 u145 u146 u147 u148 u149 u150 u151 u152 u153 u154 u155 u156 u157 u158 u159 u160 u161 u162 u163 u164 : Value) (b0 p3 pk pw pn q cap : Nat) (Aa : Option Addr) (nm : List ByteArray) (nx : ByteArray) (W : World) (hcn : W.cell? ⟨pn, 0, none⟩ = some (.slice Aa nm.length cap)) (hrow : ∀ i (hi : i < nm.length), ∃ g, Aa = some ⟨g, 0, none⟩ ∧ W.cell? ⟨g, i, none⟩ = some (.string nm[i])) (hnx : W.cell? ⟨q, 7, none⟩ = some (.string nx)) (hlen : nm.length < 1000000) (Q : Exit → Act → World → Prop) (hLo : ¬ LetsOut Q)
    (hQ : ∀ (u0 u1 u4 u5 u12 u13 u14 u15 u16 u17 u18 u19 u20 u21 u22 u23 u24 u25 u26 u27 u28 u29 u30 u31 u32 u33 u34 u35 u36 u37 u38 u39 u40 u41 u42 u43 u44 u45 u46 u47 u48 u49 u50 u51 u52 u53 u54 u55 u56 u57 u58 u59 u60 u61 u62 u63 u64 u65 u66 u67 u68 u69 u70 u71 u72 u73 u74 u75 u76 u77 u78 u79 u80 u81 u82 u83 u84 u85 u86 u87 u88 u89 u90 u91 u92 u93 u94 u95 u96 u97 u98 u99 u100 u101 u102 u103 u104 u105 u106 u107 u108 u109 u110 u111 u112 u113 u114 u115 u116 u117 u118 u119 u120 u121 u122 u123 u124 u125 u126 u127 u128 u129 u130 u131 u132 u133 u134 u135 u136 u137 u138 u139 u140 u141 u142 u143 u144 u145 u146 u147 u148 u149 u150 u151 u152 u153 u154 u155 u156 u157 u158 u159 u160 u161 u162 u163 u164 : Value) (W' : World), Ch (fun _ => False) W W' → Q (.exit 2) ⟨#[u0, u1, .pointer (some ⟨b0 + 1, 0, none⟩), .pointer (some ⟨p3, 0, none⟩), u4, u5, .pointer (some ⟨pk, 0, none⟩), .pointer (some ⟨pw, 0, none⟩), .pointer (some ⟨pn, 0, none⟩), .pointer (some ⟨q, 0, none⟩), .bool (inB nx nm), .int .i64 nm.length, u12, u13, u14, u15, u16, u17, u18, u19, u20, u21, u22, u23, u24, u25, u26, u27, u28, u29, u30, u31, u32, u33, u34, u35, u36, u37, u38, u39, u40, u41, u42, u43, u44, u45, u46, u47, u48, u49, u50, u51, u52, u53, u54, u55, u56, u57, u58, u59, u60, u61, u62, u63, u64, u65, u66, u67, u68, u69, u70, u71, u72, u73, u74, u75, u76, u77, u78, u79, u80, u81, u82, u83, u84, u85, u86, u87, u88, u89, u90, u91, u92, u93, u94, u95, u96, u97, u98, u99, u100, u101, u102, u103, u104, u105, u106, u107, u108, u109, u110, u111, u112, u113, u114, u115, u116, u117, u118, u119, u120, u121, u122, u123, u124, u125, u126, u127, u128, u129, u130, u131, u132, u133, u134, u135, u136, u137, u138, u139, u140, u141, u142, u143, u144, u145, u146, u147, u148, u149, u150, u151, u152, u153, u154, u155, u156, u157, u158, u159, u160, u161, u162, u163, u164], []⟩ W') :
    (lp1 tellsB).wpIn (Fence.wide.inRound l) n Tryd.prog Q ⟨#[u0, u1, .pointer (some ⟨b0 + 1, 0, none⟩), .pointer (some ⟨p3, 0, none⟩), u4, u5, .pointer (some ⟨pk, 0, none⟩), .pointer (some ⟨pw, 0, none⟩), .pointer (some ⟨pn, 0, none⟩), .pointer (some ⟨q, 0, none⟩), .bool false, .int .i64 0, u12, u13, u14, u15, u16, u17, u18, u19, u20, u21, u22, u23, u24, u25, u26, u27, u28, u29, u30, u31, u32, u33, u34, u35, u36, u37, u38, u39, u40, u41, u42, u43, u44, u45, u46, u47, u48, u49, u50, u51, u52, u53, u54, u55, u56, u57, u58, u59, u60, u61, u62, u63, u64, u65, u66, u67, u68, u69, u70, u71, u72, u73, u74, u75, u76, u77, u78, u79, u80, u81, u82, u83, u84, u85, u86, u87, u88, u89, u90, u91, u92, u93, u94, u95, u96, u97, u98, u99, u100, u101, u102, u103, u104, u105, u106, u107, u108, u109, u110, u111, u112, u113, u114, u115, u116, u117, u118, u119, u120, u121, u122, u123, u124, u125, u126, u127, u128, u129, u130, u131, u132, u133, u134, u135, u136, u137, u138, u139, u140, u141, u142, u143, u144, u145, u146, u147, u148, u149, u150, u151, u152, u153, u154, u155, u156, u157, u158, u159, u160, u161, u162, u163, u164], []⟩ W := by
  dsimp only at hQ
  dsimp only
  conv => arg 4; whnf
  refine wpIn_loop_ghost (fun k a' W' => ∃ (i : Nat) (u : Nat → Value), k = nm.length - i ∧ i ≤ nm.length ∧ a' = ⟨#[u 0, u 1, .pointer (some ⟨b0 + 1, 0, none⟩), .pointer (some ⟨p3, 0, none⟩), u 4, u 5, .pointer (some ⟨pk, 0, none⟩), .pointer (some ⟨pw, 0, none⟩), .pointer (some ⟨pn, 0, none⟩), .pointer (some ⟨q, 0, none⟩), .bool (inB nx (nm.take (i))), .int .i64 (i), u 12, u 13, u 14, u 15, u 16, u 17, u 18, u 19, u 20, u 21, u 22, u 23, u 24, u 25, u 26, u 27, u 28, u 29, u 30, u 31, u 32, u 33, u 34, u 35, u 36, u 37, u 38, u 39, u 40, u 41, u 42, u 43, u 44, u 45, u 46, u 47, u 48, u 49, u 50, u 51, u 52, u 53, u 54, u 55, u 56, u 57, u 58, u 59, u 60, u 61, u 62, u 63, u 64, u 65, u 66, u 67, u 68, u 69, u 70, u 71, u 72, u 73, u 74, u 75, u 76, u 77, u 78, u 79, u 80, u 81, u 82, u 83, u 84, u 85, u 86, u 87, u 88, u 89, u 90, u 91, u 92, u 93, u 94, u 95, u 96, u 97, u 98, u 99, u 100, u 101, u 102, u 103, u 104, u 105, u 106, u 107, u 108, u 109, u 110, u 111, u 112, u 113, u 114, u 115, u 116, u 117, u 118, u 119, u 120, u 121, u 122, u 123, u 124, u 125, u 126, u 127, u 128, u 129, u 130, u 131, u 132, u 133, u 134, u 135, u 136, u 137, u 138, u 139, u 140, u 141, u 142, u 143, u 144, u 145, u 146, u 147, u 148, u 149, u 150, u 151, u 152, u 153, u 154, u 155, u 156, u 157, u 158, u 159, u 160, u 161, u 162, u 163, u 164], []⟩ ∧ Ch (fun _ => False) W W') nm.length ⟨0, fun j => (#[u0, u1, undef, undef, u4, u5, undef, undef, undef, undef, undef, undef, u12, u13, u14, u15, u16, u17, u18, u19, u20, u21, u22, u23, u24, u25, u26, u27, u28, u29, u30, u31, u32, u33, u34, u35, u36, u37, u38, u39, u40, u41, u42, u43, u44, u45, u46, u47, u48, u49, u50, u51, u52, u53, u54, u55, u56, u57, u58, u59, u60, u61, u62, u63, u64, u65, u66, u67, u68, u69, u70, u71, u72, u73, u74, u75, u76, u77, u78, u79, u80, u81, u82, u83, u84, u85, u86, u87, u88, u89, u90, u91, u92, u93, u94, u95, u96, u97, u98, u99, u100, u101, u102, u103, u104, u105, u106, u107, u108, u109, u110, u111, u112, u113, u114, u115, u116, u117, u118, u119, u120, u121, u122, u123, u124, u125, u126, u127, u128, u129, u130, u131, u132, u133, u134, u135, u136, u137, u138, u139, u140, u141, u142, u143, u144, u145, u146, u147, u148, u149, u150, u151, u152, u153, u154, u155, u156, u157, u158, u159, u160, u161, u162, u163, u164] : Array Value).getD j undef, by omega, by omega, rfl, Ch.refl _ _⟩ ?_
  rintro k a' W' ⟨i, u, rfl, hi, rfl, hc⟩
  have hcell : ∀ p v, W.cell? p = some v → W'.cell? p = some v := fun p v h => (World.cell?_of_block (hc.same p.block (cell_lt h) (fun h => h))).trans h
  have hrow' : ∀ i (hi : i < nm.length), ∃ g, Aa = some ⟨g, 0, none⟩ ∧ W'.cell? ⟨g, i, none⟩ = some (.string nm[i]) := fun i hi => by
    obtain ⟨g, h1, h2⟩ := hrow i hi
    exact ⟨g, h1, hcell _ _ h2⟩
  by_cases hlt : i < nm.length
  · refine names_round l n (u 0) (u 1) (u 4) (u 5) (u 12) (u 13) (u 14) (u 15) (u 16) (u 17) (u 18) (u 19) (u 20) (u 21) (u 22) (u 23) (u 24) (u 25) (u 26) (u 27) (u 28) (u 29) (u 30) (u 31) (u 32) (u 33) (u 34) (u 35) (u 36) (u 37) (u 38) (u 39) (u 40) (u 41) (u 42) (u 43) (u 44) (u 45) (u 46) (u 47) (u 48) (u 49) (u 50) (u 51) (u 52) (u 53) (u 54) (u 55) (u 56) (u 57) (u 58) (u 59) (u 60) (u 61) (u 62) (u 63) (u 64) (u 65) (u 66) (u 67) (u 68) (u 69) (u 70) (u 71) (u 72) (u 73) (u 74) (u 75) (u 76) (u 77) (u 78) (u 79) (u 80) (u 81) (u 82) (u 83) (u 84) (u 85) (u 86) (u 87) (u 88) (u 89) (u 90) (u 91) (u 92) (u 93) (u 94) (u 95) (u 96) (u 97) (u 98) (u 99) (u 100) (u 101) (u 102) (u 103) (u 104) (u 105) (u 106) (u 107) (u 108) (u 109) (u 110) (u 111) (u 112) (u 113) (u 114) (u 115) (u 116) (u 117) (u 118) (u 119) (u 120) (u 121) (u 122) (u 123) (u 124) (u 125) (u 126) (u 127) (u 128) (u 129) (u 130) (u 131) (u 132) (u 133) (u 134) (u 135) (u 136) (u 137) (u 138) (u 139) (u 140) (u 141) (u 142) (u 143) (u 144) (u 145) (u 146) (u 147) (u 148) (u 149) (u 150) (u 151) (u 152) (u 153) (u 154) (u 155) (u 156) (u 157) (u 158) (u 159) (u 160) (u 161) (u 162) (u 163) (u 164) i b0 p3 pk pw pn q cap Aa nm nx W' (hcell _ _ hcn) hrow' (hcell _ _ hnx) hlen hlt _ Q hLo ?_
    intro u0 u1 u4 u5 u12 u13 u14 u15 u16 u17 u18 u19 u20 u21 u22 u23 u24 u25 u26 u27 u28 u29 u30 u31 u32 u33 u34 u35 u36 u37 u38 u39 u40 u41 u42 u43 u44 u45 u46 u47 u48 u49 u50 u51 u52 u53 u54 u55 u56 u57 u58 u59 u60 u61 u62 u63 u64 u65 u66 u67 u68 u69 u70 u71 u72 u73 u74 u75 u76 u77 u78 u79 u80 u81 u82 u83 u84 u85 u86 u87 u88 u89 u90 u91 u92 u93 u94 u95 u96 u97 u98 u99 u100 u101 u102 u103 u104 u105 u106 u107 u108 u109 u110 u111 u112 u113 u114 u115 u116 u117 u118 u119 u120 u121 u122 u123 u124 u125 u126 u127 u128 u129 u130 u131 u132 u133 u134 u135 u136 u137 u138 u139 u140 u141 u142 u143 u144 u145 u146 u147 u148 u149 u150 u151 u152 u153 u154 u155 u156 u157 u158 u159 u160 u161 u162 u163 u164
    exact ⟨nm.length - (i + 1), by omega, i + 1, fun j => (#[u0, u1, undef, undef, u4, u5, undef, undef, undef, undef, undef, undef, u12, u13, u14, u15, u16, u17, u18, u19, u20, u21, u22, u23, u24, u25, u26, u27, u28, u29, u30, u31, u32, u33, u34, u35, u36, u37, u38, u39, u40, u41, u42, u43, u44, u45, u46, u47, u48, u49, u50, u51, u52, u53, u54, u55, u56, u57, u58, u59, u60, u61, u62, u63, u64, u65, u66, u67, u68, u69, u70, u71, u72, u73, u74, u75, u76, u77, u78, u79, u80, u81, u82, u83, u84, u85, u86, u87, u88, u89, u90, u91, u92, u93, u94, u95, u96, u97, u98, u99, u100, u101, u102, u103, u104, u105, u106, u107, u108, u109, u110, u111, u112, u113, u114, u115, u116, u117, u118, u119, u120, u121, u122, u123, u124, u125, u126, u127, u128, u129, u130, u131, u132, u133, u134, u135, u136, u137, u138, u139, u140, u141, u142, u143, u144, u145, u146, u147, u148, u149, u150, u151, u152, u153, u154, u155, u156, u157, u158, u159, u160, u161, u162, u163, u164] : Array Value).getD j undef, rfl, by omega, rfl, hc.drew⟩
  · have hie : i = nm.length := by omega
    refine names_exit l n (u 0) (u 1) (u 4) (u 5) (u 12) (u 13) (u 14) (u 15) (u 16) (u 17) (u 18) (u 19) (u 20) (u 21) (u 22) (u 23) (u 24) (u 25) (u 26) (u 27) (u 28) (u 29) (u 30) (u 31) (u 32) (u 33) (u 34) (u 35) (u 36) (u 37) (u 38) (u 39) (u 40) (u 41) (u 42) (u 43) (u 44) (u 45) (u 46) (u 47) (u 48) (u 49) (u 50) (u 51) (u 52) (u 53) (u 54) (u 55) (u 56) (u 57) (u 58) (u 59) (u 60) (u 61) (u 62) (u 63) (u 64) (u 65) (u 66) (u 67) (u 68) (u 69) (u 70) (u 71) (u 72) (u 73) (u 74) (u 75) (u 76) (u 77) (u 78) (u 79) (u 80) (u 81) (u 82) (u 83) (u 84) (u 85) (u 86) (u 87) (u 88) (u 89) (u 90) (u 91) (u 92) (u 93) (u 94) (u 95) (u 96) (u 97) (u 98) (u 99) (u 100) (u 101) (u 102) (u 103) (u 104) (u 105) (u 106) (u 107) (u 108) (u 109) (u 110) (u 111) (u 112) (u 113) (u 114) (u 115) (u 116) (u 117) (u 118) (u 119) (u 120) (u 121) (u 122) (u 123) (u 124) (u 125) (u 126) (u 127) (u 128) (u 129) (u 130) (u 131) (u 132) (u 133) (u 134) (u 135) (u 136) (u 137) (u 138) (u 139) (u 140) (u 141) (u 142) (u 143) (u 144) (u 145) (u 146) (u 147) (u 148) (u 149) (u 150) (u 151) (u 152) (u 153) (u 154) (u 155) (u 156) (u 157) (u 158) (u 159) (u 160) (u 161) (u 162) (u 163) (u 164) i b0 p3 pk pw pn q cap Aa nm nx W' (hcell _ _ hcn) hrow' (hcell _ _ hnx) hlen hie _ Q hLo ?_
    intro u0 u1 u4 u5 u12 u13 u14 u15 u16 u17 u18 u19 u20 u21 u22 u23 u24 u25 u26 u27 u28 u29 u30 u31 u32 u33 u34 u35 u36 u37 u38 u39 u40 u41 u42 u43 u44 u45 u46 u47 u48 u49 u50 u51 u52 u53 u54 u55 u56 u57 u58 u59 u60 u61 u62 u63 u64 u65 u66 u67 u68 u69 u70 u71 u72 u73 u74 u75 u76 u77 u78 u79 u80 u81 u82 u83 u84 u85 u86 u87 u88 u89 u90 u91 u92 u93 u94 u95 u96 u97 u98 u99 u100 u101 u102 u103 u104 u105 u106 u107 u108 u109 u110 u111 u112 u113 u114 u115 u116 u117 u118 u119 u120 u121 u122 u123 u124 u125 u126 u127 u128 u129 u130 u131 u132 u133 u134 u135 u136 u137 u138 u139 u140 u141 u142 u143 u144 u145 u146 u147 u148 u149 u150 u151 u152 u153 u154 u155 u156 u157 u158 u159 u160 u161 u162 u163 u164
    rw [hie, List.take_length]
    exact hQ u0 u1 u4 u5 u12 u13 u14 u15 u16 u17 u18 u19 u20 u21 u22 u23 u24 u25 u26 u27 u28 u29 u30 u31 u32 u33 u34 u35 u36 u37 u38 u39 u40 u41 u42 u43 u44 u45 u46 u47 u48 u49 u50 u51 u52 u53 u54 u55 u56 u57 u58 u59 u60 u61 u62 u63 u64 u65 u66 u67 u68 u69 u70 u71 u72 u73 u74 u75 u76 u77 u78 u79 u80 u81 u82 u83 u84 u85 u86 u87 u88 u89 u90 u91 u92 u93 u94 u95 u96 u97 u98 u99 u100 u101 u102 u103 u104 u105 u106 u107 u108 u109 u110 u111 u112 u113 u114 u115 u116 u117 u118 u119 u120 u121 u122 u123 u124 u125 u126 u127 u128 u129 u130 u131 u132 u133 u134 u135 u136 u137 u138 u139 u140 u141 u142 u143 u144 u145 u146 u147 u148 u149 u150 u151 u152 u153 u154 u155 u156 u157 u158 u159 u160 u161 u162 u163 u164 W' hc
end Go.Proofs.YtggpffipijoddaaDoor
namespace Go.Proofs.YtggpffipijoddaaDoor
open Go Go.RowKit Go.Shelf
attribute [local go_sem] Oper.semAt_some

set_option maxRecDepth 100000 in
set_option maxHeartbeats 4000000 in
theorem tells20 (l n : Nat) (u0 u1 u4 u5 u10 u11 u12 u13 u14 u15 u16 u17 u18 u19 u20 u21 u22 u23 u24 u25 u26 u27 u28 u29 u30 u31 u32 u33 u34 u35 u36 u37 u38 u39 u40 u41 u42 u43 u44 u45 u46 u47 u48 u49 u50 u51 u52 u53 u54 u55 u56 u57 u58 u59 u60 u61 u62 u63 u64 u65 u66 u67 u68 u69 u70 u71 u72 u73 u74 u75 u76 u77 u78 u79 u80 u81 u82 u83 u84 u85 u86 u87 u88 u89 u90 u91 u92 u93 u94 u95 u96 u97 u98 u99 u100 u101 u102 u103 u104 u105 u106 u107 u108 u109 u110 u111 u112 u113 u114 u115 u116 u117 u118 u119 u120 u121 u122 u123 u124 u125 u126 u127 u128 u129 u130 u131 u132 u133 u134 u135 u136 u137 u138 u139 u140 u141 u142 u143 u144 u145 u146 u147 u148 u149 u150 u151 u152 u153 u154 u155 u156 u157 u158 u159 u160 u161 u162 u163 u164 : Value) (b0 p3 pk pw pn q : Nat) (W : World) (y : Tr) (Ay : Option Addr) (cy : Nat) (nm : List ByteArray) (hq : W.heap[q]? = some (.cells (nodeA y.d Ay y.l.length cy) 34)) (hnms : Nms W pn nm) (hpl : pn < W.heap.size) (hlen : nm.length < 1000000) (K : Act → World → Prop) (Q : Exit → Act → World → Prop) (hLo : ¬ LetsOut (Exit.then K Q))
    (hK : ∀ (u0 u1 u4 u5 u10 u11 u12 u13 u14 u15 u16 u17 u18 u19 u20 u21 u22 u23 u24 u25 u26 u27 u28 u29 u30 u31 u32 u33 u34 u35 u36 u37 u38 u39 u40 u41 u42 u43 u44 u45 u46 u47 u48 u49 u50 u51 u52 u53 u54 u55 u56 u57 u58 u59 u60 u61 u62 u63 u64 u65 u66 u67 u68 u69 u70 u71 u72 u73 u74 u75 u76 u77 u78 u79 u80 u81 u82 u83 u84 u85 u86 u87 u88 u89 u90 u91 u92 u93 u94 u95 u96 u97 u98 u99 u100 u101 u102 u103 u104 u105 u106 u107 u108 u109 u110 u111 u112 u113 u114 u115 u116 u117 u118 u119 u120 u121 u122 u123 u124 u125 u126 u127 u128 u129 u130 u131 u132 u133 u134 u135 u136 u137 u138 u139 u140 u141 u142 u143 u144 u145 u146 u147 u148 u149 u150 u151 u152 u153 u154 u155 u156 u157 u158 u159 u160 u161 u162 u163 u164 : Value) (W' : World), Nms W' pn (addName nm y.d) → Ch (fun j => j = pn ∨ (∃ cs, W.heap[j]? = some (.cells cs 9) ∧ pn + 1 ≤ j)) W W' → K ⟨#[u0, u1, .pointer (some ⟨b0 + 1, 0, none⟩), .pointer (some ⟨p3, 0, none⟩), u4, u5, .pointer (some ⟨pk, 0, none⟩), .pointer (some ⟨pw, 0, none⟩), .pointer (some ⟨pn, 0, none⟩), .pointer (some ⟨q, 0, none⟩), u10, u11, u12, u13, u14, u15, u16, u17, u18, u19, u20, u21, u22, u23, u24, u25, u26, u27, u28, u29, u30, u31, u32, u33, u34, u35, u36, u37, u38, u39, u40, u41, u42, u43, u44, u45, u46, u47, u48, u49, u50, u51, u52, u53, u54, u55, u56, u57, u58, u59, u60, u61, u62, u63, u64, u65, u66, u67, u68, u69, u70, u71, u72, u73, u74, u75, u76, u77, u78, u79, u80, u81, u82, u83, u84, u85, u86, u87, u88, u89, u90, u91, u92, u93, u94, u95, u96, u97, u98, u99, u100, u101, u102, u103, u104, u105, u106, u107, u108, u109, u110, u111, u112, u113, u114, u115, u116, u117, u118, u119, u120, u121, u122, u123, u124, u125, u126, u127, u128, u129, u130, u131, u132, u133, u134, u135, u136, u137, u138, u139, u140, u141, u142, u143, u144, u145, u146, u147, u148, u149, u150, u151, u152, u153, u154, u155, u156, u157, u158, u159, u160, u161, u162, u163, u164], []⟩ W') :
    (fstC (sndC (sndC tellsB))).wpIn (Fence.wide.inRound l) n Tryd.prog (Exit.then K Q) ⟨#[u0, u1, .pointer (some ⟨b0 + 1, 0, none⟩), .pointer (some ⟨p3, 0, none⟩), u4, u5, .pointer (some ⟨pk, 0, none⟩), .pointer (some ⟨pw, 0, none⟩), .pointer (some ⟨pn, 0, none⟩), .pointer (some ⟨q, 0, none⟩), u10, u11, u12, u13, u14, u15, u16, u17, u18, u19, u20, u21, u22, u23, u24, u25, u26, u27, u28, u29, u30, u31, u32, u33, u34, u35, u36, u37, u38, u39, u40, u41, u42, u43, u44, u45, u46, u47, u48, u49, u50, u51, u52, u53, u54, u55, u56, u57, u58, u59, u60, u61, u62, u63, u64, u65, u66, u67, u68, u69, u70, u71, u72, u73, u74, u75, u76, u77, u78, u79, u80, u81, u82, u83, u84, u85, u86, u87, u88, u89, u90, u91, u92, u93, u94, u95, u96, u97, u98, u99, u100, u101, u102, u103, u104, u105, u106, u107, u108, u109, u110, u111, u112, u113, u114, u115, u116, u117, u118, u119, u120, u121, u122, u123, u124, u125, u126, u127, u128, u129, u130, u131, u132, u133, u134, u135, u136, u137, u138, u139, u140, u141, u142, u143, u144, u145, u146, u147, u148, u149, u150, u151, u152, u153, u154, u155, u156, u157, u158, u159, u160, u161, u162, u163, u164], []⟩ W := by
  dsimp only at hK
  dsimp only
  conv => arg 4; whnf
  obtain ⟨nv, hnb, hnr⟩ := hnms
  obtain ⟨kd, hkd⟩ : ∃ kd, kd = y.d.kind := ⟨_, rfl⟩
  have hck : W.cell? ⟨q, 0, none⟩ = some (.int .i64 kd) := by rw [Lib.cell_of_heap hq, hkd]; rfl
  obtain ⟨nx, hnx⟩ : ∃ nx, nx = y.d.name := ⟨_, rfl⟩
  have hcx : W.cell? ⟨q, 7, none⟩ = some (.string nx) := by rw [Lib.cell_of_heap hq, hnx]; rfl
  have HKD := Lib.hid hkd
  have HNX := Lib.hid hnx
  have HK := Lib.hid hK
  have HLO := Lib.hid hLo
  have HNB := Lib.hid hnb
  have HNR := Lib.hid hnr
  have HPL := Lib.hid hpl
  have HCX := Lib.hid hcx
  clear hkd hnx hK hLo hnb hnr hq hpl hcx
  by_cases h7 : kd = 7
  · subst h7
    refine wpIn_seq ?_
    refine wpIn_region_lit ?_
    refine wpListIn_of (by rintro ⟨a', w', h⟩; exact HLO.out ⟨a', w', h⟩) _ _ _ (by intro o ho c hc; simp only [List.mem_cons, List.not_mem_nil, or_false] at ho; rcases ho with rfl | rfl | rfl <;> cases hc) ?_
    go_wp2
    refine wpIn_cond_true rfl ?_
    refine wpIn_seq ?_
    refine wpIn_region_lit ?_
    refine wpListIn_of (by rintro ⟨a', w', h⟩; exact HLO.out ⟨a', w', h⟩) _ _ _ (by intro o ho c hc; simp only [List.mem_cons, List.not_mem_nil, or_false] at ho; subst ho; cases hc) ?_
    go_wp2
    refine wpIn_seq ?_
    refine wpIn_seq ?_
    refine wpIn_region_lit ?_
    refine wpListIn_of (by rintro ⟨a', w', h⟩; exact HLO.out ⟨a', w', h⟩) _ _ _ (by intro o ho c hc; simp only [List.mem_cons, List.not_mem_nil, or_false] at ho; subst ho; cases hc) ?_
    go_wp2
    refine wpIn_block ?_
    have hform : ∃ (Aa : Option Addr) (cap : Nat), nv = .slice Aa nm.length cap ∧ ∀ i (hi : i < nm.length), ∃ g, Aa = some ⟨g, 0, none⟩ ∧ W.cell? ⟨g, i, none⟩ = some (.string nm[i]) := by
      have how := HNR.out
      rcases how.2 with ⟨rfl, h3⟩ | ⟨g, cap, cur, rfl, h3, h4, h5, h6, -⟩
      · exact ⟨none, 0, by rw [h3], fun i hi => by omega⟩
      · refine ⟨_, cap, rfl, fun i hi => ⟨g, rfl, ?_⟩⟩
        have := how.cellAt i (by omega)
        rw [this]; simp [hi]
    obtain ⟨Aa, cap, rfl, hrow⟩ := hform
    refine names_loop l n _ _ _ _ _ _ _ _ _ _ _ _ _ _ _ _ _ _ _ _ _ _ _ _ _ _ _ _ _ _ _ _ _ _ _ _ _ _ _ _ _ _ _ _ _ _ _ _ _ _ _ _ _ _ _ _ _ _ _ _ _ _ _ _ _ _ _ _ _ _ _ _ _ _ _ _ _ _ _ _ _ _ _ _ _ _ _ _ _ _ _ _ _ _ _ _ _ _ _ _ _ _ _ _ _ _ _ _ _ _ _ _ _ _ _ _ _ _ _ _ _ _ _ _ _ _ _ _ _ _ _ _ _ _ _ _ _ _ _ _ _ _ _ _ _ _ _ _ _ _ _ _ _ _ _ _ _ b0 p3 pk pw pn q cap Aa nm nx W HNB.out.cell hrow HCX.out hlen _ (by rintro ⟨a', w', h⟩; exact HLO.out ⟨a', w', h⟩) ?_
    clear hrow hck
    intro v0 v1 v4 v5 v12 v13 v14 v15 v16 v17 v18 v19 v20 v21 v22 v23 v24 v25 v26 v27 v28 v29 v30 v31 v32 v33 v34 v35 v36 v37 v38 v39 v40 v41 v42 v43 v44 v45 v46 v47 v48 v49 v50 v51 v52 v53 v54 v55 v56 v57 v58 v59 v60 v61 v62 v63 v64 v65 v66 v67 v68 v69 v70 v71 v72 v73 v74 v75 v76 v77 v78 v79 v80 v81 v82 v83 v84 v85 v86 v87 v88 v89 v90 v91 v92 v93 v94 v95 v96 v97 v98 v99 v100 v101 v102 v103 v104 v105 v106 v107 v108 v109 v110 v111 v112 v113 v114 v115 v116 v117 v118 v119 v120 v121 v122 v123 v124 v125 v126 v127 v128 v129 v130 v131 v132 v133 v134 v135 v136 v137 v138 v139 v140 v141 v142 v143 v144 v145 v146 v147 v148 v149 v150 v151 v152 v153 v154 v155 v156 v157 v158 v159 v160 v161 v162 v163 v164 W' hc
    have hnb' : Boxed W' pn 55 (.slice Aa nm.length cap) := hc.boxed HNB.out (fun h => h)
    have hnr' : W'.ownsRow (pn + 1) 9 1 (.slice Aa nm.length cap) nm.length (nm.map Value.string) := row_ch HNR.out hc (fun _ _ h _ _ => h)
    have hcx' : W'.cell? ⟨q, 7, none⟩ = some (.string nx) := (World.cell?_of_block (hc.same q (cell_lt HCX.out) (fun h => h))).trans HCX.out
    have hcn' := hnb'.cell
    have HNB2 := Lib.hid hnb'
    have HNR2 := Lib.hid hnr'
    have HC := Lib.hid hc
    have HPL2 : Hid (pn < W'.heap.size) := Lib.hid (Nat.lt_of_lt_of_le HPL.out hc.size)
    clear hnb' hnr' hc
    change Code.wpIn _ _ _ _ _ _ W'
    cases hin : inB nx nm with
    | true =>
      have hadd : addName nm y.d = nm := by unfold addName; rw [if_neg (by rw [← HNX.out, hin]; simp)]
      have HADD := Lib.hid hadd
      clear hadd hin
      refine wpIn_seq ?_
      refine wpIn_region_lit ?_
      refine wpListIn_of (by rintro ⟨a', w', h⟩; exact HLO.out ⟨a', w', h⟩) _ _ _ (by intro o ho c hc; simp only [List.mem_cons, List.not_mem_nil, or_false] at ho; rcases ho with rfl | rfl <;> cases hc) ?_
      go_wp2
      refine wpIn_cond_false rfl ?_
      refine wpIn_skip ?_
      exact HK.out _ _ _ _ _ _ _ _ _ _ _ _ _ _ _ _ _ _ _ _ _ _ _ _ _ _ _ _ _ _ _ _ _ _ _ _ _ _ _ _ _ _ _ _ _ _ _ _ _ _ _ _ _ _ _ _ _ _ _ _ _ _ _ _ _ _ _ _ _ _ _ _ _ _ _ _ _ _ _ _ _ _ _ _ _ _ _ _ _ _ _ _ _ _ _ _ _ _ _ _ _ _ _ _ _ _ _ _ _ _ _ _ _ _ _ _ _ _ _ _ _ _ _ _ _ _ _ _ _ _ _ _ _ _ _ _ _ _ _ _ _ _ _ _ _ _ _ _ _ _ _ _ _ _ _ _ _ _ _ W' (by rw [HADD.out]; exact ⟨_, HNB2.out, HNR2.out⟩) (HC.out.mono (fun _ h => h.elim))
    | false =>
      have hadd : addName nm y.d = nm ++ [nx] := by unfold addName; rw [← HNX.out, if_pos ⟨HKD.out.symm, hin⟩]
      have HADD := Lib.hid hadd
      clear hadd hin
      refine wpIn_seq ?_
      refine wpIn_region_lit ?_
      refine wpListIn_of (by rintro ⟨a', w', h⟩; exact HLO.out ⟨a', w', h⟩) _ _ _ (by intro o ho c hc; simp only [List.mem_cons, List.not_mem_nil, or_false] at ho; rcases ho with rfl | rfl <;> cases hc) ?_
      go_wp2
      refine wpIn_cond_true rfl ?_
      obtain ⟨ti, hti⟩ : ∃ ti, Tryd.prog.info? 9 = some ti := by
        have := infStr
        cases h : Tryd.prog.info? 9 with
        | none => rw [h] at this; cases this
        | some ti => exact ⟨ti, rfl⟩
      have hzs := infStr
      rw [hti] at hzs
      simp only [Option.map_some, Option.some.injEq, Prod.mk.injEq] at hzs
      obtain ⟨hz0, hz1, hz2⟩ := hzs
      have HTI := Lib.hid hti
      have HZ0 := Lib.hid hz0
      have HZ1 := Lib.hid hz1
      have HZ2 := Lib.hid hz2
      clear hti hz0 hz1 hz2
      refine wpIn_region_lit ?_
      refine wpListIn_of (by rintro ⟨a', w', h⟩; exact HLO.out ⟨a', w', h⟩) _ _ _ (by intro o ho c hc; simp only [List.mem_cons, List.not_mem_nil, or_false] at ho; rcases ho with rfl | rfl | rfl | rfl | rfl | rfl <;> cases hc) ?_
      go_wp2_with (first | (at_builtin; refine wpList_append_own_at _ rfl _ _ 55 rfl (pn + 1) 9 ti (.string ⟨#[]⟩) 1 16 undSs HTI.out HZ0.out HZ1.out HZ2.out rfl (by decide) (.slice Aa nm.length cap) nm.length (nm.map Value.string) rfl (HNR2.out.alloc _) ⟨W'.heap.size, 0, none⟩ 1 1 [.string nx] rfl rfl (World.news_of_block (heap_alloc_new W' (.cells #[.string nx] 9))) (by intro u hu; simp only [List.mem_singleton] at hu; subst hu; rfl) (by unfold maxLen; omega) (by omega) (by have := HPL2.out; simp; omega) ?_; intro v' w1 hown hgrow hnil hat; clear hnil hat; obtain ⟨g, cap2, cur, rfl, -⟩ := own_form hown (by omega); have hbx1 := box_pw HNB2.out HNR2.out (Nat.le_refl _) hgrow; have hcc := hbx1.cell; have hff := hbx1.frozen))
      have hw2 : Nms (w1.setCell ⟨pn, 0, none⟩ (.slice (some ⟨g, 0, none⟩) (nm.length + 1) cap2)) pn (nm ++ [nx]) := by
        refine ⟨_, hbx1.set _, ?_⟩
        have := own_fresh (v' := .slice (some ⟨g, 0, none⟩) (nm.length + 1) cap2) hown pn (by omega)
        simpa [List.map_append] using this
      exact HK.out _ _ _ _ _ _ _ _ _ _ _ _ _ _ _ _ _ _ _ _ _ _ _ _ _ _ _ _ _ _ _ _ _ _ _ _ _ _ _ _ _ _ _ _ _ _ _ _ _ _ _ _ _ _ _ _ _ _ _ _ _ _ _ _ _ _ _ _ _ _ _ _ _ _ _ _ _ _ _ _ _ _ _ _ _ _ _ _ _ _ _ _ _ _ _ _ _ _ _ _ _ _ _ _ _ _ _ _ _ _ _ _ _ _ _ _ _ _ _ _ _ _ _ _ _ _ _ _ _ _ _ _ _ _ _ _ _ _ _ _ _ _ _ _ _ _ _ _ _ _ _ _ _ _ _ _ _ _ _ _ (by rw [HADD.out]; exact hw2) ((HC.out.mono (fun _ h => h.elim)).trans ((Ch.push (p := pn) hgrow).mono (fun j hj => hj.imp id (fun e => by obtain ⟨h1, cur2, h2⟩ := own_of HNR.out j e; exact ⟨cur2, h2, h1⟩))))
  · have q1 : (kd == 7) = false := by simpa using h7
    have q2 : decide (kd = 7) = false := by simpa using h7
    have hadd : addName nm y.d = nm := by unfold addName; rw [if_neg (by rw [← HKD.out]; simp [h7])]
    have HADD := Lib.hid hadd
    clear hadd
    refine wpIn_seq ?_
    refine wpIn_region_lit ?_
    refine wpListIn_of (by rintro ⟨a', w', h⟩; exact HLO.out ⟨a', w', h⟩) _ _ _ (by intro o ho c hc; simp only [List.mem_cons, List.not_mem_nil, or_false] at ho; rcases ho with rfl | rfl | rfl <;> cases hc) ?_
    go_wp2
    refine wpIn_cond_false rfl ?_
    refine wpIn_skip ?_
    exact HK.out _ _ _ _ _ _ _ _ _ _ _ _ _ _ _ _ _ _ _ _ _ _ _ _ _ _ _ _ _ _ _ _ _ _ _ _ _ _ _ _ _ _ _ _ _ _ _ _ _ _ _ _ _ _ _ _ _ _ _ _ _ _ _ _ _ _ _ _ _ _ _ _ _ _ _ _ _ _ _ _ _ _ _ _ _ _ _ _ _ _ _ _ _ _ _ _ _ _ _ _ _ _ _ _ _ _ _ _ _ _ _ _ _ _ _ _ _ _ _ _ _ _ _ _ _ _ _ _ _ _ _ _ _ _ _ _ _ _ _ _ _ _ _ _ _ _ _ _ _ _ _ _ _ _ _ _ _ _ _ W (by rw [HADD.out]; exact ⟨nv, HNB.out, HNR.out⟩) (Ch.refl _ _)

set_option maxRecDepth 100000 in
set_option maxHeartbeats 2000000 in
theorem tells28 (l n : Nat) (u0 u1 u4 u5 u10 u11 u12 u13 u14 u15 u16 u17 u18 u19 u20 u21 u22 u23 u24 u25 u26 u27 u28 u29 u30 u31 u32 u33 u34 u35 u36 u37 u38 u39 u40 u41 u42 u43 u44 u45 u46 u47 u48 u49 u50 u51 u52 u53 u54 u55 u56 u57 u58 u59 u60 u61 u62 u63 u64 u65 u66 u67 u68 u69 u70 u71 u72 u73 u74 u75 u76 u77 u78 u79 u80 u81 u82 u83 u84 u85 u86 u87 u88 u89 u90 u91 u92 u93 u94 u95 u96 u97 u98 u99 u100 u101 u102 u103 u104 u105 u106 u107 u108 u109 u110 u111 u112 u113 u114 u115 u116 u117 u118 u119 u120 u121 u122 u123 u124 u125 u126 u127 u128 u129 u130 u131 u132 u133 u134 u135 u136 u137 u138 u139 u140 u141 u142 u143 u144 u145 u146 u147 u148 u149 u150 u151 u152 u153 u154 u155 u156 u157 u158 u159 u160 u161 u162 u163 u164 : Value) (b0 p3 pk pw pn q kk : Nat) (W : World) (hk : Boxed W pk 3 (.int .i64 kk)) (hkk : kk < 1048577) (Q : Exit → Act → World → Prop) (hLo : ¬ LetsOut Q)
    (hQ : ∀ (a' : Act) (W' : World), Boxed W' pk 3 (.int .i64 ((kk + 1 : Nat) : Int)) → Ch (fun j => j = pk) W W' → Q .normal a' W') :
    (sndC (sndC (sndC tellsB))).wpIn (Fence.wide.inRound l) n Tryd.prog Q ⟨#[u0, u1, .pointer (some ⟨b0 + 1, 0, none⟩), .pointer (some ⟨p3, 0, none⟩), u4, u5, .pointer (some ⟨pk, 0, none⟩), .pointer (some ⟨pw, 0, none⟩), .pointer (some ⟨pn, 0, none⟩), .pointer (some ⟨q, 0, none⟩), u10, u11, u12, u13, u14, u15, u16, u17, u18, u19, u20, u21, u22, u23, u24, u25, u26, u27, u28, u29, u30, u31, u32, u33, u34, u35, u36, u37, u38, u39, u40, u41, u42, u43, u44, u45, u46, u47, u48, u49, u50, u51, u52, u53, u54, u55, u56, u57, u58, u59, u60, u61, u62, u63, u64, u65, u66, u67, u68, u69, u70, u71, u72, u73, u74, u75, u76, u77, u78, u79, u80, u81, u82, u83, u84, u85, u86, u87, u88, u89, u90, u91, u92, u93, u94, u95, u96, u97, u98, u99, u100, u101, u102, u103, u104, u105, u106, u107, u108, u109, u110, u111, u112, u113, u114, u115, u116, u117, u118, u119, u120, u121, u122, u123, u124, u125, u126, u127, u128, u129, u130, u131, u132, u133, u134, u135, u136, u137, u138, u139, u140, u141, u142, u143, u144, u145, u146, u147, u148, u149, u150, u151, u152, u153, u154, u155, u156, u157, u158, u159, u160, u161, u162, u163, u164], []⟩ W := by
  dsimp only
  conv => arg 4; whnf
  have hkc := hk.cell
  have hkf := hk.frozen
  have hov : (kk : Int) + 1 ≤ 9223372036854775807 := by omega
  have HQ := Lib.hid hQ
  have HLO := Lib.hid hLo
  have HKB := Lib.hid hk
  clear hQ hLo hk
  refine wpIn_region_lit ?_
  refine wpListIn_of (by rintro ⟨a', w', h⟩; exact HLO.out ⟨a', w', h⟩) _ _ _ (by intro o ho c hc; simp only [List.mem_cons, List.not_mem_nil, or_false] at ho; rcases ho with rfl | rfl | rfl <;> cases hc) ?_
  go_wp2
  have e3 : (kk : Int) + 1 = ((kk + 1 : Nat) : Int) := by omega
  rw [e3]
  exact HQ.out _ _ (HKB.out.set _) (Ch.setCell W pk _ rfl)
end Go.Proofs.YtggpffipijoddaaDoor
namespace Go.Proofs.YtggpffipijoddaaDoor
open Go Go.RowKit Go.Shelf
attribute [local go_sem] Oper.semAt_some

theorem Ch.then {X Y : Nat → Prop} {A B C : World} (h : Ch X A B) (k : Ch Y B C) (hY : ∀ j, j < A.heap.size → Y j → X j) : Ch X A C :=
  ⟨k.os.trans h.os, k.tape.trans h.tape, k.output.trans h.output, Nat.le_trans h.size k.size, fun j hj hn => (k.same j (Nat.lt_of_lt_of_le hj h.size) (fun hy => hn (hY j hj hy))).trans (h.same j hj hn)⟩
theorem NodeAt.keepS {w w' : World} {B : Nat} (hk : ∀ (p : Addr) (v : Value), p.block < B → w.cell? p = some v → w'.cell? p = some v) (t : Tr) : ∀ b o, NodeAt w B b o t → NodeAt w' B b o t := by
  induction t using Tr.ind with
  | _ d l ih =>
    intro b o h
    simp only [NodeAt] at h ⊢
    obtain ⟨hb, hd, A, c, hc, h1, h2, h3⟩ := h
    refine ⟨hb, hd, A, c, fun j hj => ?_, h1, h2, ?_⟩
    · have := hc j hj
      have hs : j < (nodeA d A l.length c).size := hj
      rw [Array.getElem?_eq_getElem hs] at this ⊢
      exact hk _ _ hb this
    · rcases h3 with rfl | ⟨b', o', hA, hkids⟩
      · exact .inl rfl
      · exact .inr ⟨b', o', hA, KidsAt.of (fun i hi => ih _ (List.getElem_mem hi) _ _ (hkids.get i hi))⟩
theorem SlAt.keepS {w w' : World} {B : Nat} {A : Option Addr} {c : Nat} {l : List Tr} (h : SlAt w B A c l) (hk : ∀ (p : Addr) (v : Value), p.block < B → w.cell? p = some v → w'.cell? p = some v) : SlAt w' B A c l := by
  obtain ⟨h1, h2, h3⟩ := h
  refine ⟨h1, h2, ?_⟩
  rcases h3 with rfl | ⟨b', o', hA, hkids⟩
  · exact .inl rfl
  · exact .inr ⟨b', o', hA, KidsAt.of (fun i hi => NodeAt.keepS hk _ _ _ (hkids.get i hi))⟩
def areasY (ys : List Yt) : List (Cn × Cn) := (ys.map (·.1)).filterMap fun x => areaD x.d
def namesY (ys : List Yt) : List ByteArray := namesL (ys.map (·.1.d))
theorem areasY_snoc (ys : List Yt) (y : Yt) : areasY (ys ++ [y]) = areasY ys ++ (areaD y.1.d).toList := by
  simp only [areasY, List.map_append, List.map_cons, List.map_nil, List.filterMap_append]
  cases h : areaD y.1.d <;> simp [List.filterMap, h]
theorem namesY_snoc (ys : List Yt) (y : Yt) : namesY (ys ++ [y]) = addName (namesY ys) y.1.d := by
  simp only [namesY, namesL, List.map_append, List.map_cons, List.map_nil, List.foldl_append, List.foldl_cons, List.foldl_nil]
theorem areasY_len (ys : List Yt) : (areasY ys).length ≤ ys.length := by have := List.length_filterMap_le (fun x : Tr => areaD x.d) (ys.map (·.1)); simpa [areasY] using this
theorem namesY_len (ys : List Yt) : (namesY ys).length ≤ ys.length := by have := namesL_len (ys.map (·.1.d)); simpa [namesY] using this
/-- where the range over all nodes stands. -/
structure RI (B0 b0 p3 pk pw pn : Nat) (w : World) (N : Array Value) (ln : List Tr) (ds : List Deferred) (ys : List Yt) (W : World) : Prop where
  tb : TB B0 b0 p3 pk w N ln W
  cnt : Boxed W pk 3 (.int .i64 ys.length)
  want : Wnt W pw pn (areasY ys)
  names : Nms W pn (namesY ys)
  pre : ys.map (·.1) <+: ln
  marks : Marks (pn + 1) ds W
  lt : pn < W.heap.size
theorem RI.abides {B0 b0 p3 pk pw pn B : Nat} {w : World} {N : Array Value} {ln : List Tr} {ds : List Deferred} (hB : pn < B) (hkw : pk < pw) (hwn : pw < pn) (hl : ∀ d ∈ ds, ∀ D, d = markOf D → D < B) :
    AbidesN [85, 36] B (fun (ys : List Yt) W => RI B0 b0 p3 pk pw pn w N ln ds ys W) := by
  intro ys W W' row h hg hr
  have hc : Ch (fun j => row = some j) W W' := .grown hg (fun _ e => e)
  have hlo : ∀ j, row = some j → B ≤ j := fun j e => (hr j e).1
  have hty : ∀ j cs (T : TypeId), T ≠ 85 → T ≠ 36 → row = some j → W.heap[j]? = some (.cells cs T (0, 0)) → False := by
    intro j cs T h1 h2 e hcs
    rcases (hr j e).2 with ⟨T', hT', cs', fz, hc'⟩ | ⟨o, ho, hn⟩
    · rw [hcs] at hc'
      simp only [Option.some.injEq, Obj.cells.injEq] at hc'
      simp only [List.mem_cons, List.not_mem_nil, or_false] at hT'
      have e2 := hc'.2.1
      rcases hT' with rfl | rfl
      · exact h1 e2
      · exact h2 e2
    · rw [hcs] at ho; cases ho; cases hn
  have hne : ∀ k, k ≤ pn → ¬ (row = some k) := fun k hk e => by have := hlo k e; omega
  exact ⟨h.tb.ch hc (fun j e => by have := hlo j e; omega), hc.boxed h.cnt (hne _ (by omega)), h.want.ch hc (hne _ (by omega)) (fun j cs e hcs _ => hty j cs _ (by decide) (by decide) e hcs), h.names.ch hc (hne _ (Nat.le_refl _)) (fun j cs e hcs _ => hty j cs _ (by decide) (by decide) e hcs), h.pre, h.marks.low hl hg hlo, Nat.lt_of_lt_of_le h.lt hg.size⟩
theorem RI.below {B0 b0 p3 pk pw pn : Nat} {w W W' : World} {N : Array Value} {ln : List Tr} {ds : List Deferred} {ys : List Yt} (h : RI B0 b0 p3 pk pw pn w N ln ds ys W) (hb : Below W.heap.size W W') : RI B0 b0 p3 pk pw pn w N ln ds ys W' := by
  have hc : Ch (fun _ => False) W W' := .below hb
  exact ⟨h.tb.ch hc (fun _ e => e.elim), hc.boxed h.cnt (fun e => e), h.want.ch hc (fun e => e) (fun _ _ e _ _ => e), h.names.ch hc (fun e => e) (fun _ _ e _ _ => e), h.pre, h.marks.below hb, Nat.lt_of_lt_of_le h.lt hb.size⟩
theorem tellsB_blk : rfBody (rf1 tellsC) = Code.block 1 tellsB := by kernel_rfl
theorem tellsB_seq : tellsB = Code.seq (fstC tellsB) (Code.seq (fstC (sndC tellsB)) (Code.seq (fstC (sndC (sndC tellsB))) (sndC (sndC (sndC tellsB))))) := by kernel_rfl

/-- what a round that goes on turns. -/
def XR (pk pw pn : Nat) (W : World) (j : Nat) : Prop := j = pk ∨ j = pw ∨ j = pn ∨ (∃ cs, W.heap[j]? = some (.cells cs 31) ∧ pn + 1 ≤ j) ∨ (∃ cs, W.heap[j]? = some (.cells cs 9) ∧ pn + 1 ≤ j)
theorem kf_below {W W' : World} {B : Nat} (h : Below W.heap.size W W') : KeepsFrom B W W' := ⟨h.size, fun k _o _ hk _ => (h.block k (Array.getElem?_eq_some_iff.1 hk).1).trans hk⟩

set_option maxRecDepth 100000 in
set_option maxHeartbeats 4000000 in
theorem tells_body (l n : Nat) (u0 u1 u4 u5 u10 u11 u12 u13 u14 u15 u16 u17 u18 u19 u20 u21 u22 u23 u24 u25 u26 u27 u28 u29 u30 u31 u32 u33 u34 u35 u36 u37 u38 u39 u40 u41 u42 u43 u44 u45 u46 u47 u48 u49 u50 u51 u52 u53 u54 u55 u56 u57 u58 u59 u60 u61 u62 u63 u64 u65 u66 u67 u68 u69 u70 u71 u72 u73 u74 u75 u76 u77 u78 u79 u80 u81 u82 u83 u84 u85 u86 u87 u88 u89 u90 u91 u92 u93 u94 u95 u96 u97 u98 u99 u100 u101 u102 u103 u104 u105 u106 u107 u108 u109 u110 u111 u112 u113 u114 u115 u116 u117 u118 u119 u120 u121 u122 u123 u124 u125 u126 u127 u128 u129 u130 u131 u132 u133 u134 u135 u136 u137 u138 u139 u140 u141 u142 u143 u144 u145 u146 u147 u148 u149 u150 u151 u152 u153 u154 u155 u156 u157 u158 u159 u160 u161 u162 u163 u164 : Value) (q B0 b0 p3 pk pw pn r B : Nat) (w W : World) (N : Array Value) (ln : List Tr) (ds : List Deferred) (ys : List Yt) (y : Yt) (hri : RI B0 b0 p3 pk pw pn w N ln ds ys W) (hkw : pk < pw) (hwn : pw < pn) (hrk : r < pk) (hBn : pn < B) (hq : W.heap[q]? = some (.cells (nodeA y.1.d y.2.1 y.1.l.length y.2.2) 34)) (hyd : y.1.d.ok) (hys : SlAt W W.heap.size y.2.1 y.2.2 y.1.l) (hlz : ln.length ≤ 1000) :
    (rfBody (rf1 tellsC)).wpIn (Fence.wide.inRound l) n Tryd.prog (ownPostG B (KeepTs (r + 1) [85, 36]) (fun (ys : List Yt) W => RI B0 b0 p3 pk pw pn w N ln ds ys W) (fun _ ys _ => ¬ ys.map (·.1) <+: ln) (ys ++ [y]) W) ⟨#[u0, u1, .pointer (some ⟨b0 + 1, 0, none⟩), .pointer (some ⟨p3, 0, none⟩), u4, u5, .pointer (some ⟨pk, 0, none⟩), .pointer (some ⟨pw, 0, none⟩), .pointer (some ⟨pn, 0, none⟩), .pointer (some ⟨q, 0, none⟩), u10, u11, u12, u13, u14, u15, u16, u17, u18, u19, u20, u21, u22, u23, u24, u25, u26, u27, u28, u29, u30, u31, u32, u33, u34, u35, u36, u37, u38, u39, u40, u41, u42, u43, u44, u45, u46, u47, u48, u49, u50, u51, u52, u53, u54, u55, u56, u57, u58, u59, u60, u61, u62, u63, u64, u65, u66, u67, u68, u69, u70, u71, u72, u73, u74, u75, u76, u77, u78, u79, u80, u81, u82, u83, u84, u85, u86, u87, u88, u89, u90, u91, u92, u93, u94, u95, u96, u97, u98, u99, u100, u101, u102, u103, u104, u105, u106, u107, u108, u109, u110, u111, u112, u113, u114, u115, u116, u117, u118, u119, u120, u121, u122, u123, u124, u125, u126, u127, u128, u129, u130, u131, u132, u133, u134, u135, u136, u137, u138, u139, u140, u141, u142, u143, u144, u145, u146, u147, u148, u149, u150, u151, u152, u153, u154, u155, u156, u157, u158, u159, u160, u161, u162, u163, u164], []⟩ W := by
  rw [tellsB_blk]
  refine wpIn_block ?_
  rw [tellsB_seq]
  refine wpIn_seq ?_
  obtain ⟨hp1, hp2, hp3, hp4⟩ := hri.tb.low
  obtain ⟨Al, cl, hl1, hl2⟩ := hri.tb.lst
  have hpre := hri.pre
  have hkl : ys.length ≤ ln.length := by have := hpre.length_le; simpa using this
  have hret : ∀ (a' : Act) (W' : World), ¬ (ys ++ [y]).map (·.1) <+: ln → Below W.heap.size W W' → ownPostG B (KeepTs (r + 1) [85, 36]) (fun (ys : List Yt) W => RI B0 b0 p3 pk pw pn w N ln ds ys W) (fun _ ys _ => ¬ ys.map (·.1) <+: ln) (ys ++ [y]) W .ret a' (W'.setCell ⟨b0 + 1, 0, none⟩ (.bool false)) := fun a' W' hn hb =>
    ⟨(kf_below hb).trans (KeepsFrom.of_grownBy (grownBy_setCell' _ _ _) (fun j e => by cases e; omega)), hn⟩
  have hsn : ((ys ++ [y]).map (·.1) <+: ln) ↔ ∃ hl : ys.length < ln.length, ln[ys.length] = y.1 := by
    have h0 := pre_snoc hpre y.1
    rw [List.map_append, List.map_singleton]
    simpa using h0
  by_cases hlt : ys.length < ln.length
  · obtain ⟨lb, lo, hAl, hn⟩ := hl2.at_ ys.length hlt
    obtain ⟨-, hzd, Az, cz, hzc, hzs⟩ := hn.open_
    have hzs' : SlAt W W.heap.size Az cz ln[ys.length].l := hzs.more (by omega)
    by_cases he : ln[ys.length] = y.1
    · have hn1 : ∀ (W2 : World), Below W.heap.size W W2 → ∀ j, j < W.heap.size → W2.heap[j]? = W.heap[j]? := fun W2 hb j hj => hb.block j hj
      refine tells16_same l n _ _ _ _ _ _ _ _ _ _ _ _ _ _ _ _ _ _ _ _ _ _ _ _ _ _ _ _ _ _ _ _ _ _ _ _ _ _ _ _ _ _ _ _ _ _ _ _ _ _ _ _ _ _ _ _ _ _ _ _ _ _ _ _ _ _ _ _ _ _ _ _ _ _ _ _ _ _ _ _ _ _ _ _ _ _ _ _ _ _ _ _ _ _ _ _ _ _ _ _ _ _ _ _ _ _ _ _ _ _ _ _ _ _ _ _ _ _ _ _ _ _ _ _ _ _ _ _ _ _ _ _ _ _ _ _ _ _ _ _ _ _ _ _ _ _ _ _ _ _ _ _ _ _ _ _ _ _ _ b0 p3 pk pw pn q ys.length ln.length cl Al W hri.cnt hl1 (by omega) _ _ (by rintro ⟨_, _, h⟩; exact h)
        y.1 ln[ys.length] y.2.1 Az Al y.2.2 cz lb lo hyd hys hzd hzs' hq hlt hAl hzc (by rw [sameB_eq]; exact he.symm) ?_
      intro x0 x1 x4 x5 x10 x11 x12 x13 x14 x15 x16 x17 x18 x19 x20 x21 x22 x23 x24 x25 x26 x27 x28 x29 x30 x31 x32 x33 x34 x35 x36 x37 x38 x39 x40 x41 x42 x43 x44 x45 x46 x47 x48 x49 x50 x51 x52 x53 x54 x55 x56 x57 x58 x59 x60 x61 x62 x63 x64 x65 x66 x67 x68 x69 x70 x71 x72 x73 x74 x75 x76 x77 x78 x79 x80 x81 x82 x83 x84 x85 x86 x87 x88 x89 x90 x91 x92 x93 x94 x95 x96 x97 x98 x99 x100 x101 x102 x103 x104 x105 x106 x107 x108 x109 x110 x111 x112 x113 x114 x115 x116 x117 x118 x119 x120 x121 x122 x123 x124 x125 x126 x127 x128 x129 x130 x131 x132 x133 x134 x135 x136 x137 x138 x139 x140 x141 x142 x143 x144 x145 x146 x147 x148 x149 x150 x151 x152 x153 x154 x155 x156 x157 x158 x159 x160 x161 x162 x163 x164 W2 hb2
      have hri2 := hri.below hb2
      have hq2 : W2.heap[q]? = some (.cells (nodeA y.1.d y.2.1 y.1.l.length y.2.2) 34) := (hb2.block q (Array.getElem?_eq_some_iff.1 hq).1).trans hq
      have hal := areasY_len ys
      have hnl := namesY_len ys
      refine wpIn_seq ?_
      refine tells18 l n _ _ _ _ _ _ _ _ _ _ _ _ _ _ _ _ _ _ _ _ _ _ _ _ _ _ _ _ _ _ _ _ _ _ _ _ _ _ _ _ _ _ _ _ _ _ _ _ _ _ _ _ _ _ _ _ _ _ _ _ _ _ _ _ _ _ _ _ _ _ _ _ _ _ _ _ _ _ _ _ _ _ _ _ _ _ _ _ _ _ _ _ _ _ _ _ _ _ _ _ _ _ _ _ _ _ _ _ _ _ _ _ _ _ _ _ _ _ _ _ _ _ _ _ _ _ _ _ _ _ _ _ _ _ _ _ _ _ _ _ _ _ _ _ _ _ _ _ _ _ _ _ _ _ _ _ _ _ _ b0 p3 pk pw pn q W2 y.1 y.2.1 y.2.2 (areasY ys) hq2 hri2.want (by omega) hri2.lt (by omega) _ _ (by rintro ⟨_, _, h⟩; exact h) ?_
      intro y0 y1 y4 y5 y10 y11 y12 y13 y14 y15 y16 y17 y18 y19 y20 y21 y22 y23 y24 y25 y26 y27 y28 y29 y30 y31 y32 y33 y34 y35 y36 y37 y38 y39 y40 y41 y42 y43 y44 y45 y46 y47 y48 y49 y50 y51 y52 y53 y54 y55 y56 y57 y58 y59 y60 y61 y62 y63 y64 y65 y66 y67 y68 y69 y70 y71 y72 y73 y74 y75 y76 y77 y78 y79 y80 y81 y82 y83 y84 y85 y86 y87 y88 y89 y90 y91 y92 y93 y94 y95 y96 y97 y98 y99 y100 y101 y102 y103 y104 y105 y106 y107 y108 y109 y110 y111 y112 y113 y114 y115 y116 y117 y118 y119 y120 y121 y122 y123 y124 y125 y126 y127 y128 y129 y130 y131 y132 y133 y134 y135 y136 y137 y138 y139 y140 y141 y142 y143 y144 y145 y146 y147 y148 y149 y150 y151 y152 y153 y154 y155 y156 y157 y158 y159 y160 y161 y162 y163 y164 W3 hw3 hc3
      obtain ⟨wv2, hwb2, -⟩ := hri2.want
      obtain ⟨nv2, hnb2, -⟩ := hri2.names
      have ty : ∀ {W : World} {j : Nat} {c1 c2 : Array Value} {T1 T2 : TypeId}, W.heap[j]? = some (.cells c1 T1) → W.heap[j]? = some (.cells c2 T2) → T1 = T2 := fun h1 h2 => by
        rw [h1] at h2; simp only [Option.some.injEq, Obj.cells.injEq] at h2; exact h2.2.1
      have hq3 : W3.heap[q]? = some (.cells (nodeA y.1.d y.2.1 y.1.l.length y.2.2) 34) := (hc3.same q (Array.getElem?_eq_some_iff.1 hq2).1 (fun hx => by
        rcases hx with rfl | ⟨cs, hcs, -⟩
        · exact absurd (ty hq2 hwb2) (by decide)
        · exact absurd (ty hq2 hcs) (by decide))).trans hq2
      have hn3 : Nms W3 pn (namesY ys) := hri2.names.ch hc3 (fun hx => by
        rcases hx with e | ⟨cs, -, e⟩ <;> omega) (fun j cs hx hcs hj => by
        rcases hx with rfl | ⟨cs', hcs', -⟩
        · omega
        · exact absurd (ty hcs hcs') (by decide))
      have hk3 : Boxed W3 pk 3 (.int .i64 ys.length) := hc3.boxed hri2.cnt (fun hx => by rcases hx with e | ⟨cs, -, e⟩ <;> omega)
      have hpl3 : pn < W3.heap.size := Nat.lt_of_lt_of_le hri2.lt hc3.size
      refine wpIn_seq ?_
      refine tells20 l n _ _ _ _ _ _ _ _ _ _ _ _ _ _ _ _ _ _ _ _ _ _ _ _ _ _ _ _ _ _ _ _ _ _ _ _ _ _ _ _ _ _ _ _ _ _ _ _ _ _ _ _ _ _ _ _ _ _ _ _ _ _ _ _ _ _ _ _ _ _ _ _ _ _ _ _ _ _ _ _ _ _ _ _ _ _ _ _ _ _ _ _ _ _ _ _ _ _ _ _ _ _ _ _ _ _ _ _ _ _ _ _ _ _ _ _ _ _ _ _ _ _ _ _ _ _ _ _ _ _ _ _ _ _ _ _ _ _ _ _ _ _ _ _ _ _ _ _ _ _ _ _ _ _ _ _ _ _ _ b0 p3 pk pw pn q W3 y.1 y.2.1 y.2.2 (namesY ys) hq3 hn3 hpl3 (by omega) _ _ (by rintro ⟨_, _, h⟩; exact h) ?_
      intro z0 z1 z4 z5 z10 z11 z12 z13 z14 z15 z16 z17 z18 z19 z20 z21 z22 z23 z24 z25 z26 z27 z28 z29 z30 z31 z32 z33 z34 z35 z36 z37 z38 z39 z40 z41 z42 z43 z44 z45 z46 z47 z48 z49 z50 z51 z52 z53 z54 z55 z56 z57 z58 z59 z60 z61 z62 z63 z64 z65 z66 z67 z68 z69 z70 z71 z72 z73 z74 z75 z76 z77 z78 z79 z80 z81 z82 z83 z84 z85 z86 z87 z88 z89 z90 z91 z92 z93 z94 z95 z96 z97 z98 z99 z100 z101 z102 z103 z104 z105 z106 z107 z108 z109 z110 z111 z112 z113 z114 z115 z116 z117 z118 z119 z120 z121 z122 z123 z124 z125 z126 z127 z128 z129 z130 z131 z132 z133 z134 z135 z136 z137 z138 z139 z140 z141 z142 z143 z144 z145 z146 z147 z148 z149 z150 z151 z152 z153 z154 z155 z156 z157 z158 z159 z160 z161 z162 z163 z164 W4 hn4 hc4
      obtain ⟨nv3, hnb3, -⟩ := hn3
      have hw4 : Wnt W4 pw pn (areasY ys ++ (areaD y.1.d).toList) := hw3.ch hc4 (fun hx => by rcases hx with e | ⟨cs, -, e⟩ <;> omega) (fun j cs hx hcs hj => by
        rcases hx with rfl | ⟨cs', hcs', -⟩
        · omega
        · exact absurd (ty hcs hcs') (by decide))
      have hk4 : Boxed W4 pk 3 (.int .i64 ys.length) := hc4.boxed hk3 (fun hx => by rcases hx with e | ⟨cs, -, e⟩ <;> omega)
      refine tells28 l n _ _ _ _ _ _ _ _ _ _ _ _ _ _ _ _ _ _ _ _ _ _ _ _ _ _ _ _ _ _ _ _ _ _ _ _ _ _ _ _ _ _ _ _ _ _ _ _ _ _ _ _ _ _ _ _ _ _ _ _ _ _ _ _ _ _ _ _ _ _ _ _ _ _ _ _ _ _ _ _ _ _ _ _ _ _ _ _ _ _ _ _ _ _ _ _ _ _ _ _ _ _ _ _ _ _ _ _ _ _ _ _ _ _ _ _ _ _ _ _ _ _ _ _ _ _ _ _ _ _ _ _ _ _ _ _ _ _ _ _ _ _ _ _ _ _ _ _ _ _ _ _ _ _ _ _ _ _ _ b0 p3 pk pw pn q ys.length W4 hk4 (by omega) _ (by rintro ⟨_, _, h⟩; exact h) ?_
      intro a' W5 hk5 hc5
      have hw5 : Wnt W5 pw pn (areasY ys ++ (areaD y.1.d).toList) := hw4.ch hc5 (by omega) (fun j cs hx hcs hj => by omega)
      have hn5 : Nms W5 pn (addName (namesY ys) y.1.d) := hn4.ch hc5 (by omega) (fun j cs hx hcs hj => by omega)
      have hall : Ch (XR pk pw pn W) W W5 := by
        refine (((Ch.below (X := XR pk pw pn W) hb2).then hc3 ?_).then hc4 ?_).then hc5 (fun j _ e => .inl e)
        · rintro j hj (rfl | ⟨cs, hcs, h⟩)
          · exact .inr (.inl rfl)
          · exact .inr (.inr (.inr (.inl ⟨cs, by rw [← hb2.block j hj]; exact hcs, h⟩)))
        · rintro j hj (rfl | ⟨cs, hcs, h⟩)
          · exact .inr (.inr (.inl rfl))
          · by_cases hx : j = pw ∨ (∃ cs, W2.heap[j]? = some (.cells cs 31) ∧ pn + 1 ≤ j)
            · rcases hx with rfl | ⟨cs', hcs', h'⟩
              · exact .inr (.inl rfl)
              · exact .inr (.inr (.inr (.inl ⟨cs', by rw [← hb2.block j hj]; exact hcs', h'⟩)))
            · have e := hc3.same j (by have := hb2.size; omega) hx
              exact .inr (.inr (.inr (.inr ⟨cs, by rw [← hb2.block j hj, ← e]; exact hcs, h⟩)))
      have hXlo : ∀ j, XR pk pw pn W j → pk ≤ j := by
        rintro j (e | e | e | ⟨_, -, e⟩ | ⟨_, -, e⟩) <;> omega
      have hsz : W.heap.size ≤ W5.heap.size := hall.size
      refine ⟨⟨hsz, fun k o hk h1 h2 => ?_⟩, ⟨hall.put (Below.refl (r + 1) W) (by have := hri.lt; omega) (fun j hj => by have := hXlo j hj; omega), fun T hT k hk => ?_⟩, ⟨hri.tb.ch hall hXlo, ?_, ?_, ?_, hsn.2 ⟨hlt, he⟩, hri.marks.keep (fun k hk h => ?_), by have := hri.lt; omega⟩⟩
      · refine (hall.same k (Array.getElem?_eq_some_iff.1 h1).1 (fun hx => ?_)).trans h1
        rcases hx with e | e | e | ⟨cs, hcs, -⟩ | ⟨cs, hcs, -⟩
        · omega
        · omega
        · omega
        · rw [h1] at hcs; cases hcs; cases h2
        · rw [h1] at hcs; cases hcs; cases h2
      · obtain ⟨cs', fz, hc'⟩ := hk
        obtain ⟨wv0, hwb0, -⟩ := hri.want
        obtain ⟨nv0, hnb0, -⟩ := hri.names
        simp only [List.mem_cons, List.not_mem_nil, or_false] at hT
        have tz : ∀ {c2 : Array Value} {T2 : TypeId}, W.heap[k]? = some (.cells c2 T2) → T = T2 := fun h2 => by
          rw [hc'] at h2; simp only [Option.some.injEq, Obj.cells.injEq] at h2; exact h2.2.1
        refine hall.same k (Array.getElem?_eq_some_iff.1 hc').1 (fun hx => ?_)
        have e3 : T = 3 ∨ T = 43 ∨ T = 55 ∨ T = 31 ∨ T = 9 := by
          rcases hx with rfl | rfl | rfl | ⟨cs, hcs, -⟩ | ⟨cs, hcs, -⟩
          · exact .inl (tz hri.cnt)
          · exact .inr (.inl (tz hwb0))
          · exact .inr (.inr (.inl (tz hnb0)))
          · exact .inr (.inr (.inr (.inl (tz hcs))))
          · exact .inr (.inr (.inr (.inr (tz hcs))))
        rcases hT with rfl | rfl <;> (rcases e3 with e | e | e | e | e <;> exact absurd e (by decide))
      · rw [List.length_append, List.length_singleton]; exact hk5
      · rw [areasY_snoc]; exact hw5
      · rw [namesY_snoc]; exact hn5
      · refine (hall.same k (Array.getElem?_eq_some_iff.1 h).1 (fun hx => ?_)).trans h
        rcases hx with e | e | e | ⟨cs, hcs, -⟩ | ⟨cs, hcs, -⟩
        · omega
        · omega
        · omega
        · rw [h] at hcs; cases hcs
        · rw [h] at hcs; cases hcs
    · refine tells16_other l n _ _ _ _ _ _ _ _ _ _ _ _ _ _ _ _ _ _ _ _ _ _ _ _ _ _ _ _ _ _ _ _ _ _ _ _ _ _ _ _ _ _ _ _ _ _ _ _ _ _ _ _ _ _ _ _ _ _ _ _ _ _ _ _ _ _ _ _ _ _ _ _ _ _ _ _ _ _ _ _ _ _ _ _ _ _ _ _ _ _ _ _ _ _ _ _ _ _ _ _ _ _ _ _ _ _ _ _ _ _ _ _ _ _ _ _ _ _ _ _ _ _ _ _ _ _ _ _ _ _ _ _ _ _ _ _ _ _ _ _ _ _ _ _ _ _ _ _ _ _ _ _ _ _ _ _ _ _ _ b0 p3 pk pw pn q ys.length ln.length cl Al W hri.cnt hl1 (by omega) _ _ (by rintro ⟨_, _, h⟩; exact h) hri.tb.res (fun a' W' hb => hret a' W' (fun h => he (hsn.1 h).2) hb)
        y.1 ln[ys.length] y.2.1 Az Al y.2.2 cz lb lo hyd hys hzd hzs' hq hlt hAl hzc (by cases hs : sameB y.1 ln[ys.length] with | false => rfl | true => exact absurd ((sameB_eq _ _).1 hs).symm he)
  · refine tells16_over l n _ _ _ _ _ _ _ _ _ _ _ _ _ _ _ _ _ _ _ _ _ _ _ _ _ _ _ _ _ _ _ _ _ _ _ _ _ _ _ _ _ _ _ _ _ _ _ _ _ _ _ _ _ _ _ _ _ _ _ _ _ _ _ _ _ _ _ _ _ _ _ _ _ _ _ _ _ _ _ _ _ _ _ _ _ _ _ _ _ _ _ _ _ _ _ _ _ _ _ _ _ _ _ _ _ _ _ _ _ _ _ _ _ _ _ _ _ _ _ _ _ _ _ _ _ _ _ _ _ _ _ _ _ _ _ _ _ _ _ _ _ _ _ _ _ _ _ _ _ _ _ _ _ _ _ _ _ _ _ b0 p3 pk pw pn q ys.length ln.length cl Al W hri.cnt hl1 (by omega) _ _ (by rintro ⟨_, _, h⟩; exact h) hri.tb.res (fun a' W' hb => hret a' W' (fun h => hlt (hsn.1 h).1) hb) (by omega)
end Go.Proofs.YtggpffipijoddaaDoor
