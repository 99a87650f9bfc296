/- FillReads' regions 8 .. 18: the six places. FillReads' regions 19 .. 21: what the copy reads. FillReads,whole. What a row's reading of two cells gives. -/
import Derived.Test.YtbkmnboicihchaaGdQvGe
import Derived.Test.YtbkmnboicihchaaQlItQxOg0Xk0Ga
namespace Go.Proofs.Ytbkmnboicihchaa
set_option maxRecDepth 100000
set_option maxHeartbeats 8000000
set_option linter.unusedSimpArgs false
set_option linter.unusedVariables false
open Go Go.RowKit Go.Shelf Go.Maps
theorem rd_8_14 : fromRegion 14 (fromRegion 8 readsC) = fromRegion 14 readsC:=by kernel_rfl
theorem rd_14_19 : fromRegion 19 (fromRegion 14 readsC) = fromRegion 19 readsC:=by kernel_rfl
def at6 (z0 z1 z2 z3 z4 z5 : Int) (k : Nat) : Int:=if k = 0 then z0 else if k = 1 then z1 else if k = 2 then z2 else if k = 3 then z3 else if k = 4 then z4 else z5
theorem und6 : Try.prog.underlying 79 = some (.array 6 3):=by kernel_rfl
theorem idx6_run {o : Oper} {ρ : Operand → Value} (w : World) (x y : Operand) (ho : o.op = .index 79 x y) (z0 z1 z2 z3 z4 z5 : Int) (k : Nat) (hk : k < 6) (hx : ρ x = .agg #[.int .i64 z0,.int .i64 z1,.int .i64 z2,.int .i64 z3,.int .i64 z4,.int .i64 z5]) (hy : ρ y = .int .i64 k) : (execOp ρ o).run Try.prog w = .ok (.value (.int .i64 (at6 z0 z1 z2 z3 z4 z5 k))) w:=by
 unfold execOp
 simp only [ho,hx,hy]
 have hk6 : k = 0 ∨ k = 1 ∨ k = 2 ∨ k = 3 ∨ k = 4 ∨ k = 5:=by omega
 rcases hk6 with rfl | rfl | rfl | rfl | rfl | rfl <;> (show _ = _; kernel_rfl)
theorem fr8 (u0 u1 u2 u4 u5 u6 u7 u10 u13 u14 u15 u16 u17 u18 u19 u20 u21 u22 u23 u24 u25 u26 u27 u28 u29 u30 u31 u32 u33 u34 u35 u36 u37 u38 u39 u40 u41 u42 u43 u44 u45 u46 u47 u48 u49 u50 u51 u52 u53 u54 u55 u56 u57 u58 u59 u60 u61 u62 u63 u64 u65 u66 u67 u68 u69 u70 u71 u72 u73 u74 u75 u76 u77 u78 u79 u80 u81 u82 u83 u84 u85 u86 u87 u88 u89 u90 u91 u92 u93 u94 u95 u96 u97 u98 u99 u100 u101 u102 u103 u104 u105 u106 u107 u108 u109 u110 u111 u112 u113 u114 u115 u116 u117 u118 u119 u120 u121 u122 u123 u124 u125 u126 u127 u128 u129 u130 u131 u132 u133 u134 u135 u136 u137 u138 u139 u140 u141 u142 u143 u144 u145 u146 u147 u148 u149 u150 u151 u152 V8 V9 : Value) (W : World) (R0 : Ending → World → Prop) (g3 g11 g12 : Nat) (z0 z1 z2 z3 z4 z5 : Int)
   (h12 : W.heap[g12]? = some (.cells #[.int .i64 z0,.int .i64 z1,.int .i64 z2,.int .i64 z3,.int .i64 z4,.int .i64 z5] 79))
   (hret : R0 (.returned (.bool true)) W)
   (hk : ∀ (u0 u1 u2 u4 u5 u6 u7 u10 u13 u14 u15 u16 u17 u18 u19 u20 u21 u22 u23 u24 u25 u26 u27 u28 u29 u30 u31 u32 u33 u34 u35 u36 u37 u38 u39 u40 u41 u42 u43 u44 u45 u46 u47 u48 u49 u50 u51 u52 u53 u54 u55 u56 u57 u58 u59 u60 u61 u62 u63 u64 u65 u66 u67 u68 u69 u70 u71 u72 u73 u74 u75 u76 u77 u78 u79 u80 u81 u82 u83 u84 u85 u86 u87 u88 u89 u90 u91 u92 u93 u94 u95 u96 u97 u98 u99 u100 u101 u102 u103 u104 u105 u106 u107 u108 u109 u110 u111 u112 u113 u114 u115 u116 u117 u118 u119 u120 u121 u122 u123 u124 u125 u126 u127 u128 u129 u130 u131 u132 u133 u134 u135 u136 u137 u138 u139 u140 u141 u142 u143 u144 u145 u146 u147 u148 u149 u150 u151 u152 : Value),0 ≤ z0 → 0 ≤ z1 → 0 ≤ z2 → 0 ≤ z3 → 0 ≤ z4 → 0 ≤ z5 → (fromRegion 14 readsC).wp Try.prog (bodyPost Try.prog Try.f5 R0) ⟨#[u0,u1,u2,.pointer (some ⟨g3,0,none⟩),u4,u5,u6,u7,V8,V9,u10,.pointer (some ⟨g11,0,none⟩),.pointer (some ⟨g12,0,none⟩),u13,u14,u15,u16,u17,u18,u19,u20,u21,u22,u23,u24,u25,u26,u27,u28,u29,u30,u31,u32,u33,u34,u35,u36,u37,u38,u39,u40,u41,u42,u43,u44,u45,u46,u47,u48,u49,u50,u51,u52,u53,u54,u55,u56,u57,u58,u59,u60,u61,u62,u63,u64,u65,u66,u67,u68,u69,u70,u71,u72,u73,u74,u75,u76,u77,u78,u79,u80,u81,u82,u83,u84,u85,u86,u87,u88,u89,u90,u91,u92,u93,u94,u95,u96,u97,u98,u99,u100,u101,u102,u103,u104,u105,u106,u107,u108,u109,u110,u111,u112,u113,u114,u115,u116,u117,u118,u119,u120,u121,u122,u123,u124,u125,u126,u127,u128,u129,u130,u131,u132,u133,u134,u135,u136,u137,u138,u139,u140,u141,u142,u143,u144,u145,u146,u147,u148,u149,u150,u151,u152],[]⟩ W) :
   (fromRegion 8 readsC).wp Try.prog (bodyPost Try.prog Try.f5 R0) ⟨#[u0,u1,u2,.pointer (some ⟨g3,0,none⟩),u4,u5,u6,u7,V8,V9,u10,.pointer (some ⟨g11,0,none⟩),.pointer (some ⟨g12,0,none⟩),u13,u14,u15,u16,u17,u18,u19,u20,u21,u22,u23,u24,u25,u26,u27,u28,u29,u30,u31,u32,u33,u34,u35,u36,u37,u38,u39,u40,u41,u42,u43,u44,u45,u46,u47,u48,u49,u50,u51,u52,u53,u54,u55,u56,u57,u58,u59,u60,u61,u62,u63,u64,u65,u66,u67,u68,u69,u70,u71,u72,u73,u74,u75,u76,u77,u78,u79,u80,u81,u82,u83,u84,u85,u86,u87,u88,u89,u90,u91,u92,u93,u94,u95,u96,u97,u98,u99,u100,u101,u102,u103,u104,u105,u106,u107,u108,u109,u110,u111,u112,u113,u114,u115,u116,u117,u118,u119,u120,u121,u122,u123,u124,u125,u126,u127,u128,u129,u130,u131,u132,u133,u134,u135,u136,u137,u138,u139,u140,u141,u142,u143,u144,u145,u146,u147,u148,u149,u150,u151,u152],[]⟩ W:=by
 dsimp only
 have e1:=cut_from 14 (fromRegion 8 readsC)
 rw [rd_8_14] at e1
 obtain ⟨CO,hCO⟩ : ∃ CO,CO = fromRegion 14 readsC:=⟨_,rfl⟩
 rw [← hCO] at e1 hk
 clear hCO
 dsimp only at hk
 have hidx : ∀ (wx : World) (o : Oper) (ρ : Operand → Value) (x y : Operand) (ho : o.op = .index 79 x y) (k : Nat) (hk : k < 6) (hx : ρ x = .agg #[.int .i64 z0,.int .i64 z1,.int .i64 z2,.int .i64 z3,.int .i64 z4,.int .i64 z5]) (hy : ρ y = .int .i64 k),(execOp ρ o).run Try.prog wx = .ok (.value (.int .i64 (at6 z0 z1 z2 z3 z4 z5 k))) wx:=fun wx o ρ x y ho k hk hx hy => idx6_run wx x y ho z0 z1 z2 z3 z4 z5 k hk hx hy
 have hall : (∀ j,j < 6 → 0 ≤ at6 z0 z1 z2 z3 z4 z5 j) → 0 ≤ z0 ∧ 0 ≤ z1 ∧ 0 ≤ z2 ∧ 0 ≤ z3 ∧ 0 ≤ z4 ∧ 0 ≤ z5:=fun h => ⟨h 0 (by decide),h 1 (by decide),h 2 (by decide),h 3 (by decide),h 4 (by decide),h 5 (by decide)⟩
 obtain ⟨F,hF⟩ : ∃ F,F = at6 z0 z1 z2 z3 z4 z5:=⟨_,rfl⟩
 rw [← hF] at hidx hall
 have HIX:=Lib.hid hidx
 have HALL:=Lib.hid hall
 have HK:=Lib.hid hk
 have HRET:=Lib.hid hret
 have HU6:=Lib.hid und6
 have HI6:=Lib.hid (show ∀ a b c d e f : Value,(Try.prog.info? 79).map (·.size) = some (#[a,b,c,d,e,f] : Array Value).size from fun _ _ _ _ _ _ => by kernel_rfl)
 have H12:=Lib.hid h12
 clear hidx hall hk hret h12 hF
 rw [← e1]
 clear e1
 conv => arg 2; whnf; repeat (arg 2; whnf)
 go_upto_region 9 with (first | (refine wpList_row rfl 79 _ rfl g12 rfl 79 #[.int .i64 z0,.int .i64 z1,.int .i64 z2,.int .i64 z3,.int .i64 z4,.int .i64 z5] (0,0) _ H12.out HU6.out rfl (HI6.out _ _ _ _ _ _) ?_) | fail)
 go_loopw [74] (fun i wr => ∃ k : Nat,k ≤ 6 ∧ i = .int .i64 k ∧ wr = W ∧ Hid (∀ j,j < k → 0 ≤ F j)) (fun i _ => 6 - (intOf i).toNat)
 case atStart => exact ⟨0,Nat.zero_le _,rfl,rfl,Lib.hid (fun j h => absurd h (Nat.not_lt_zero _))⟩
 case round =>
   obtain ⟨k,hk6,rfl,rfl,hR⟩:=hrel
   by_cases hlt : k < 6
   · have hk1 : (k : Int) < 6:=by omega
     have hk0 : (0 : Int) ≤ k:=by omega
     have HIXK:=Lib.hid (fun wx o ρ x y ho => HIX.out wx o ρ x y ho k hlt)
     obtain ⟨y,hy⟩ : ∃ y,F k = y:=⟨_,rfl⟩
     rw [hy] at HIXK
     have HY:=Lib.hid hy
     clear hy
     by_cases hn : y < 0
     · go_wp2_with (first | (refine Great.wpList_readTo rfl _ rfl _ (HIXK.out _ _ _ _ _ rfl rfl rfl) ?_) | fail)
       exact HRET.out
     · have HN : Hid (∀ j,j < k + 1 → 0 ≤ F j):=Lib.hid (fun j hj => by
         by_cases e : j = k
         · subst e; rw [HY.out]; omega
         · exact hR.out j (by omega))
       go_wp2_with (first | (refine Great.wpList_readTo rfl _ rfl _ (HIXK.out _ _ _ _ _ rfl rfl rfl) ?_) | fail)
       go_roundw
       case measure => simp [intOf]; omega
       case rel => exact ⟨k + 1,by omega,by go_num,trivial,HN⟩
   · obtain rfl : k = 6:=by omega
     obtain ⟨h0,h1,h2,h3,h4,h5⟩:=HALL.out hR.out
     have HE:=Lib.hid (And.intro h0 (And.intro h1 (And.intro h2 (And.intro h3 (And.intro h4 h5)))))
     clear h0 h1 h2 h3 h4 h5 hR
     go_wp2
     exact HK.out _ _ _ _ _ _ _ _ _ _ _ _ _ _ _ _ _ _ _ _ _ _ _ _ _ _ _ _ _ _ _ _ _ _ _ _ _ _ _ _ _ _ _ _ _ _ _ _ _ _ _ _ _ _ _ _ _ _ _ _ _ _ _ _ _ _ _ _ _ _ _ _ _ _ _ _ _ _ _ _ _ _ _ _ _ _ _ _ _ _ _ _ _ _ _ _ _ _ _ _ _ _ _ _ _ _ _ _ _ _ _ _ _ _ _ _ _ _ _ _ _ _ _ _ _ _ _ _ _ _ _ _ _ _ _ _ _ _ _ _ _ _ _ _ _ _ _ _ HE.out.1 HE.out.2.1 HE.out.2.2.1 HE.out.2.2.2.1 HE.out.2.2.2.2.1 HE.out.2.2.2.2.2
theorem addI_run {o : Oper} {ρ : Operand → Value} {w : World} (x y : Operand) (ho : o.op = .binOp .add 3 x y 3) (a b : Int) (hx : ρ x = .int .i64 a) (hy : ρ y = .int .i64 b) (hw : wrap64 (a + b) = a + b) : (execOp ρ o).run Try.prog w = .ok (.value (.int .i64 (a + b))) w:=by
 unfold execOp
 simp only [ho,hx,hy]
 simp [go_sem]
 rw [IntKind.wrap_i64]
 unfold wrap64 at hw
 exact hw
theorem subI_run {o : Oper} {ρ : Operand → Value} {w : World} (x y : Operand) (ho : o.op = .binOp .sub 3 x y 3) (a b : Int) (hx : ρ x = .int .i64 a) (hy : ρ y = .int .i64 b) (hw : wrap64 (a - b) = a - b) : (execOp ρ o).run Try.prog w = .ok (.value (.int .i64 (a - b))) w:=by
 unfold execOp
 simp only [ho,hx,hy]
 simp [go_sem]
 rw [IntKind.wrap_i64]
 unfold wrap64 at hw
 exact hw
theorem wrapS (a b : Int) (h : 0 ≤ a ∧ a ≤ 1000000 ∧ 0 ≤ b ∧ b ≤ 1000000) : wrap64 (a + b) = a + b:=by unfold wrap64; omega
theorem wrapD (a b : Int) (h : 0 ≤ a ∧ a ≤ 2000000 ∧ 0 ≤ b ∧ b ≤ 1000000) : wrap64 (a - b) = a - b:=by unfold wrap64; omega
theorem fr14 (u0 u1 u2 u4 u5 u6 u7 u10 u13 u14 u15 u16 u17 u18 u19 u20 u21 u22 u23 u24 u25 u26 u27 u28 u29 u30 u31 u32 u33 u34 u35 u36 u37 u38 u39 u40 u41 u42 u43 u44 u45 u46 u47 u48 u49 u50 u51 u52 u53 u54 u55 u56 u57 u58 u59 u60 u61 u62 u63 u64 u65 u66 u67 u68 u69 u70 u71 u72 u73 u74 u75 u76 u77 u78 u79 u80 u81 u82 u83 u84 u85 u86 u87 u88 u89 u90 u91 u92 u93 u94 u95 u96 u97 u98 u99 u100 u101 u102 u103 u104 u105 u106 u107 u108 u109 u110 u111 u112 u113 u114 u115 u116 u117 u118 u119 u120 u121 u122 u123 u124 u125 u126 u127 u128 u129 u130 u131 u132 u133 u134 u135 u136 u137 u138 u139 u140 u141 u142 u143 u144 u145 u146 u147 u148 u149 u150 u151 u152 V8 V9 : Value) (W : World) (R0 : Ending → World → Prop) (g3 g11 g12 : Nat) (z0 z1 z2 z3 z4 z5 : Int) (cn : Cn)
   (h12 : W.heap[g12]? = some (.cells #[.int .i64 z0,.int .i64 z1,.int .i64 z2,.int .i64 z3,.int .i64 z4,.int .i64 z5] 79)) (hc : W.heap[g3]? = some (.cells cn.cells.toArray 39))
   (hb : (0 ≤ z0 ∧ z0 ≤ 1000000) ∧ (0 ≤ z1 ∧ z1 ≤ 1000000) ∧ (0 ≤ z2 ∧ z2 ≤ 1000000) ∧ (0 ≤ z3 ∧ z3 ≤ 1000000) ∧ (0 ≤ z4 ∧ z4 ≤ 1000000) ∧ (0 ≤ z5 ∧ z5 ≤ 1000000))
   (hk : ∀ (W' : World) (row col : Int) (u0 u1 u2 u4 u5 u6 u7 u10 u12 u13 u14 u17 u18 u19 u20 u21 u22 u23 u24 u25 u26 u27 u28 u29 u30 u31 u32 u33 u34 u35 u36 u37 u38 u39 u40 u41 u42 u43 u44 u45 u46 u47 u48 u49 u50 u51 u52 u53 u54 u55 u56 u57 u58 u59 u60 u61 u62 u63 u64 u65 u66 u67 u68 u69 u70 u71 u72 u73 u74 u75 u76 u77 u78 u79 u80 u81 u82 u83 u84 u85 u86 u87 u88 u89 u90 u91 u92 u93 u94 u95 u96 u97 u98 u99 u100 u101 u102 u103 u104 u105 u106 u107 u108 u109 u110 u111 u112 u113 u114 u115 u116 u117 u118 u119 u120 u121 u122 u123 u124 u125 u126 u127 u128 u129 u130 u131 u132 u133 u134 u135 u136 u137 u138 u139 u140 u141 u142 u143 u144 u145 u146 u147 u148 u149 u150 u151 u152 : Value),Below W.heap.size W W' → row = (if cn.fr then z0 else z0 + z4 - z2) → col = (if cn.fc then z1 else z1 + z5 - z3) → (fromRegion 19 readsC).wp Try.prog (bodyPost Try.prog Try.f5 R0) ⟨#[u0,u1,u2,.pointer (some ⟨g3,0,none⟩),u4,u5,u6,u7,V8,V9,u10,.pointer (some ⟨g11,0,none⟩),u12,u13,u14,.int .i64 row,.int .i64 col,u17,u18,u19,u20,u21,u22,u23,u24,u25,u26,u27,u28,u29,u30,u31,u32,u33,u34,u35,u36,u37,u38,u39,u40,u41,u42,u43,u44,u45,u46,u47,u48,u49,u50,u51,u52,u53,u54,u55,u56,u57,u58,u59,u60,u61,u62,u63,u64,u65,u66,u67,u68,u69,u70,u71,u72,u73,u74,u75,u76,u77,u78,u79,u80,u81,u82,u83,u84,u85,u86,u87,u88,u89,u90,u91,u92,u93,u94,u95,u96,u97,u98,u99,u100,u101,u102,u103,u104,u105,u106,u107,u108,u109,u110,u111,u112,u113,u114,u115,u116,u117,u118,u119,u120,u121,u122,u123,u124,u125,u126,u127,u128,u129,u130,u131,u132,u133,u134,u135,u136,u137,u138,u139,u140,u141,u142,u143,u144,u145,u146,u147,u148,u149,u150,u151,u152],[]⟩ W') :
   (fromRegion 14 readsC).wp Try.prog (bodyPost Try.prog Try.f5 R0) ⟨#[u0,u1,u2,.pointer (some ⟨g3,0,none⟩),u4,u5,u6,u7,V8,V9,u10,.pointer (some ⟨g11,0,none⟩),.pointer (some ⟨g12,0,none⟩),u13,u14,u15,u16,u17,u18,u19,u20,u21,u22,u23,u24,u25,u26,u27,u28,u29,u30,u31,u32,u33,u34,u35,u36,u37,u38,u39,u40,u41,u42,u43,u44,u45,u46,u47,u48,u49,u50,u51,u52,u53,u54,u55,u56,u57,u58,u59,u60,u61,u62,u63,u64,u65,u66,u67,u68,u69,u70,u71,u72,u73,u74,u75,u76,u77,u78,u79,u80,u81,u82,u83,u84,u85,u86,u87,u88,u89,u90,u91,u92,u93,u94,u95,u96,u97,u98,u99,u100,u101,u102,u103,u104,u105,u106,u107,u108,u109,u110,u111,u112,u113,u114,u115,u116,u117,u118,u119,u120,u121,u122,u123,u124,u125,u126,u127,u128,u129,u130,u131,u132,u133,u134,u135,u136,u137,u138,u139,u140,u141,u142,u143,u144,u145,u146,u147,u148,u149,u150,u151,u152],[]⟩ W:=by
 dsimp only
 have e1:=cut_from 19 (fromRegion 14 readsC)
 rw [rd_14_19] at e1
 obtain ⟨CO,hCO⟩ : ∃ CO,CO = fromRegion 19 readsC:=⟨_,rfl⟩
 rw [← hCO] at e1 hk
 clear hCO
 dsimp only at hk
 obtain ⟨b0,b1,b2,b3,b4,b5⟩:=hb
 have w1:=wrapS z0 z4 ⟨b0.1,b0.2,b4.1,b4.2⟩
 have w2:=wrapD (z0 + z4) z2 ⟨by omega,by omega,b2.1,b2.2⟩
 have w3:=wrapS z1 z5 ⟨b1.1,b1.2,b5.1,b5.2⟩
 have w4:=wrapD (z1 + z5) z3 ⟨by omega,by omega,b3.1,b3.2⟩
 obtain ⟨ra,rn,ca,cc,fr,fc⟩:=cn
 dsimp only [Cn.cells] at hc hk
 obtain ⟨WD,hWD⟩ : ∃ w,w = W.drew:=⟨_,rfl⟩
 have hbw : Below W.heap.size W WD:=by rw [hWD]; exact (Below.refl _ W).drew
 have d0 : WD.cell? ⟨g12,0,none⟩ = some (.int .i64 z0):=by rw [hWD]; exact cell_of_row _ _ 0 _ _ _ h12
 have d1 : WD.cell? ⟨g12,1,none⟩ = some (.int .i64 z1):=by rw [hWD]; exact cell_of_row _ _ 1 _ _ _ h12
 have d2 : WD.cell? ⟨g12,2,none⟩ = some (.int .i64 z2):=by rw [hWD]; exact cell_of_row _ _ 2 _ _ _ h12
 have d3 : WD.cell? ⟨g12,3,none⟩ = some (.int .i64 z3):=by rw [hWD]; exact cell_of_row _ _ 3 _ _ _ h12
 have d4 : WD.cell? ⟨g12,4,none⟩ = some (.int .i64 z4):=by rw [hWD]; exact cell_of_row _ _ 4 _ _ _ h12
 have d5 : WD.cell? ⟨g12,5,none⟩ = some (.int .i64 z5):=by rw [hWD]; exact cell_of_row _ _ 5 _ _ _ h12
 have d6 : WD.cell? ⟨g3,4,none⟩ = some (.bool fr):=by rw [hWD]; exact cell_of_row _ _ 4 _ _ _ hc
 have d7 : WD.cell? ⟨g3,5,none⟩ = some (.bool fc):=by rw [hWD]; exact cell_of_row _ _ 5 _ _ _ hc
 have HK:=Lib.hid hk
 have HBW:=Lib.hid hbw
 have HDR:=Lib.hid (fun wz (h : Below W.heap.size W wz) => show wz.cell? ⟨g12,0,none⟩ = some (.int .i64 z0) ∧ wz.cell? ⟨g12,1,none⟩ = some (.int .i64 z1) ∧ wz.cell? ⟨g12,2,none⟩ = some (.int .i64 z2) ∧ wz.cell? ⟨g12,3,none⟩ = some (.int .i64 z3) ∧ wz.cell? ⟨g12,4,none⟩ = some (.int .i64 z4) ∧ wz.cell? ⟨g12,5,none⟩ = some (.int .i64 z5) from by
   have h':=(h.block g12 (Array.getElem?_eq_some_iff.1 h12).1).trans h12
   exact ⟨cell_of_row _ _ 0 _ _ _ h',cell_of_row _ _ 1 _ _ _ h',cell_of_row _ _ 2 _ _ _ h',cell_of_row _ _ 3 _ _ _ h',cell_of_row _ _ 4 _ _ _ h',cell_of_row _ _ 5 _ _ _ h'⟩)
 have HWR:=Lib.hid (And.intro w1 (And.intro w2 (And.intro w3 w4)))
 clear hk hbw h12 hc b0 b1 b2 b3 b4 b5 w1 w2 w3 w4
 rw [← e1]
 clear e1
 conv => arg 2; whnf; repeat (arg 2; whnf)
 go_upto_region 14 with (fail)
 refine wp_region_held_drew (S:=fun wz => Below W.heap.size W wz) (by kernel_rfl) (Below.refl _ W).drew (fun hHeld => ?_)
 refine wpAnyH_take (i:=0) (v:=.pointer (some ⟨g12,0,none⟩)) rfl (by kernel_rfl) (by kernel_rfl) (by kernel_rfl) (fun _ _ _ h => h) (Or.inl ⟨by kernel_rfl,fun _ hS => by kernel_rfl⟩) hHeld ?_
 try simp only [sX]
 refine wpAnyH_take (i:=1) (v:=.int .i64 z0) rfl (by kernel_rfl) (by kernel_rfl) (by kernel_rfl) (fun _ _ _ h => h) (Or.inl ⟨by kernel_rfl,fun _ hS => ldIn_run _ rfl ⟨g12,0,none⟩ rfl _ (HDR.out _ hS).1⟩) hHeld ?_
 try simp only [sX]
 refine wpAnyH_take (i:=2) (v:=.pointer (some ⟨g12,4,none⟩)) rfl (by kernel_rfl) (by kernel_rfl) (by kernel_rfl) (fun _ _ _ h => h) (Or.inl ⟨by kernel_rfl,fun _ hS => by kernel_rfl⟩) hHeld ?_
 try simp only [sX]
 refine wpAnyH_take (i:=3) (v:=.int .i64 z4) rfl (by kernel_rfl) (by kernel_rfl) (by kernel_rfl) (fun _ _ _ h => h) (Or.inl ⟨by kernel_rfl,fun _ hS => ldIn_run _ rfl ⟨g12,4,none⟩ rfl _ (HDR.out _ hS).2.2.2.2.1⟩) hHeld ?_
 try simp only [sX]
 refine wpAnyH_take (i:=4) (v:=.int .i64 (z0 + z4)) rfl (by kernel_rfl) (by kernel_rfl) (by kernel_rfl) (fun _ _ _ h => h) (Or.inl ⟨by kernel_rfl,fun _ hS => addI_run _ _ rfl z0 z4 rfl rfl HWR.out.1⟩) hHeld ?_
 try simp only [sX]
 refine wpAnyH_take (i:=5) (v:=.pointer (some ⟨g12,2,none⟩)) rfl (by kernel_rfl) (by kernel_rfl) (by kernel_rfl) (fun _ _ _ h => h) (Or.inl ⟨by kernel_rfl,fun _ hS => by kernel_rfl⟩) hHeld ?_
 try simp only [sX]
 refine wpAnyH_take (i:=6) (v:=.int .i64 z2) rfl (by kernel_rfl) (by kernel_rfl) (by kernel_rfl) (fun _ _ _ h => h) (Or.inl ⟨by kernel_rfl,fun _ hS => ldIn_run _ rfl ⟨g12,2,none⟩ rfl _ (HDR.out _ hS).2.2.1⟩) hHeld ?_
 try simp only [sX]
 refine wpAnyH_take (i:=7) (v:=.int .i64 (z0 + z4 - z2)) rfl (by kernel_rfl) (by kernel_rfl) (by kernel_rfl) (fun _ _ _ h => h) (Or.inl ⟨by kernel_rfl,fun _ hS => subI_run _ _ rfl (z0 + z4) z2 rfl rfl HWR.out.2.1⟩) hHeld ?_
 try simp only [sX]
 refine wpAnyH_take (i:=8) (v:=.pointer (some ⟨g12,1,none⟩)) rfl (by kernel_rfl) (by kernel_rfl) (by kernel_rfl) (fun _ _ _ h => h) (Or.inl ⟨by kernel_rfl,fun _ hS => by kernel_rfl⟩) hHeld ?_
 try simp only [sX]
 refine wpAnyH_take (i:=9) (v:=.int .i64 z1) rfl (by kernel_rfl) (by kernel_rfl) (by kernel_rfl) (fun _ _ _ h => h) (Or.inl ⟨by kernel_rfl,fun _ hS => ldIn_run _ rfl ⟨g12,1,none⟩ rfl _ (HDR.out _ hS).2.1⟩) hHeld ?_
 try simp only [sX]
 refine wpAnyH_take (i:=10) (v:=.pointer (some ⟨g12,5,none⟩)) rfl (by kernel_rfl) (by kernel_rfl) (by kernel_rfl) (fun _ _ _ h => h) (Or.inl ⟨by kernel_rfl,fun _ hS => by kernel_rfl⟩) hHeld ?_
 try simp only [sX]
 refine wpAnyH_take (i:=11) (v:=.int .i64 z5) rfl (by kernel_rfl) (by kernel_rfl) (by kernel_rfl) (fun _ _ _ h => h) (Or.inl ⟨by kernel_rfl,fun _ hS => ldIn_run _ rfl ⟨g12,5,none⟩ rfl _ (HDR.out _ hS).2.2.2.2.2⟩) hHeld ?_
 try simp only [sX]
 refine wpAnyH_take (i:=12) (v:=.int .i64 (z1 + z5)) rfl (by kernel_rfl) (by kernel_rfl) (by kernel_rfl) (fun _ _ _ h => h) (Or.inl ⟨by kernel_rfl,fun _ hS => addI_run _ _ rfl z1 z5 rfl rfl HWR.out.2.2.1⟩) hHeld ?_
 try simp only [sX]
 refine wpAnyH_take (i:=13) (v:=.pointer (some ⟨g12,3,none⟩)) rfl (by kernel_rfl) (by kernel_rfl) (by kernel_rfl) (fun _ _ _ h => h) (Or.inl ⟨by kernel_rfl,fun _ hS => by kernel_rfl⟩) hHeld ?_
 try simp only [sX]
 refine wpAnyH_take (i:=14) (v:=.int .i64 z3) rfl (by kernel_rfl) (by kernel_rfl) (by kernel_rfl) (fun _ _ _ h => h) (Or.inl ⟨by kernel_rfl,fun _ hS => ldIn_run _ rfl ⟨g12,3,none⟩ rfl _ (HDR.out _ hS).2.2.2.1⟩) hHeld ?_
 try simp only [sX]
 refine wpAnyH_take (i:=15) (v:=.int .i64 (z1 + z5 - z3)) rfl (by kernel_rfl) (by kernel_rfl) (by kernel_rfl) (fun _ _ _ h => h) (Or.inl ⟨by kernel_rfl,fun _ hS => subI_run _ _ rfl (z1 + z5) z3 rfl rfl HWR.out.2.2.2⟩) hHeld ?_
 try simp only [sX]
 refine wpAnyH_take (i:=16) (v:=.int .i64 (z0 + z4 - z2)) rfl (by kernel_rfl) (by kernel_rfl) (by kernel_rfl) (fun _ _ _ h => h) (Or.inl ⟨by kernel_rfl,fun _ hS => by kernel_rfl⟩) hHeld ?_
 try simp only [sX]
 refine wpAnyH_take (i:=17) (v:=.int .i64 (z1 + z5 - z3)) rfl (by kernel_rfl) (by kernel_rfl) (by kernel_rfl) (fun _ _ _ h => h) (Or.inl ⟨by kernel_rfl,fun _ hS => by kernel_rfl⟩) hHeld ?_
 try simp only [sX]
 refine wpAnyH_done (by kernel_rfl) ?_ _
 clear hHeld
 rw [← hWD]
 clear hWD
 obtain ⟨y1,hy1⟩ : ∃ y,y = z0 + z4 - z2:=⟨_,rfl⟩
 obtain ⟨y2,hy2⟩ : ∃ y,y = z1 + z5 - z3:=⟨_,rfl⟩
 rw [← hy1,← hy2] at HK ⊢
 clear hy1 hy2 HWR
 cases fr with
 | false =>
   cases fc with
   | false =>
     go_wp2
     exact HK.out _ _ _ _ _ _ _ _ _ _ _ _ _ _ _ _ _ _ _ _ _ _ _ _ _ _ _ _ _ _ _ _ _ _ _ _ _ _ _ _ _ _ _ _ _ _ _ _ _ _ _ _ _ _ _ _ _ _ _ _ _ _ _ _ _ _ _ _ _ _ _ _ _ _ _ _ _ _ _ _ _ _ _ _ _ _ _ _ _ _ _ _ _ _ _ _ _ _ _ _ _ _ _ _ _ _ _ _ _ _ _ _ _ _ _ _ _ _ _ _ _ _ _ _ _ _ _ _ _ _ _ _ _ _ _ _ _ _ _ _ _ _ _ _ _ _ _ _ _ _ HBW.out rfl rfl
   | true =>
     go_wp2
     exact HK.out _ _ _ _ _ _ _ _ _ _ _ _ _ _ _ _ _ _ _ _ _ _ _ _ _ _ _ _ _ _ _ _ _ _ _ _ _ _ _ _ _ _ _ _ _ _ _ _ _ _ _ _ _ _ _ _ _ _ _ _ _ _ _ _ _ _ _ _ _ _ _ _ _ _ _ _ _ _ _ _ _ _ _ _ _ _ _ _ _ _ _ _ _ _ _ _ _ _ _ _ _ _ _ _ _ _ _ _ _ _ _ _ _ _ _ _ _ _ _ _ _ _ _ _ _ _ _ _ _ _ _ _ _ _ _ _ _ _ _ _ _ _ _ _ _ _ _ _ _ _ HBW.out rfl rfl
 | true =>
   cases fc with
   | false =>
     go_wp2
     exact HK.out _ _ _ _ _ _ _ _ _ _ _ _ _ _ _ _ _ _ _ _ _ _ _ _ _ _ _ _ _ _ _ _ _ _ _ _ _ _ _ _ _ _ _ _ _ _ _ _ _ _ _ _ _ _ _ _ _ _ _ _ _ _ _ _ _ _ _ _ _ _ _ _ _ _ _ _ _ _ _ _ _ _ _ _ _ _ _ _ _ _ _ _ _ _ _ _ _ _ _ _ _ _ _ _ _ _ _ _ _ _ _ _ _ _ _ _ _ _ _ _ _ _ _ _ _ _ _ _ _ _ _ _ _ _ _ _ _ _ _ _ _ _ _ _ _ _ _ _ _ _ HBW.out rfl rfl
   | true =>
     go_wp2
     exact HK.out _ _ _ _ _ _ _ _ _ _ _ _ _ _ _ _ _ _ _ _ _ _ _ _ _ _ _ _ _ _ _ _ _ _ _ _ _ _ _ _ _ _ _ _ _ _ _ _ _ _ _ _ _ _ _ _ _ _ _ _ _ _ _ _ _ _ _ _ _ _ _ _ _ _ _ _ _ _ _ _ _ _ _ _ _ _ _ _ _ _ _ _ _ _ _ _ _ _ _ _ _ _ _ _ _ _ _ _ _ _ _ _ _ _ _ _ _ _ _ _ _ _ _ _ _ _ _ _ _ _ _ _ _ _ _ _ _ _ _ _ _ _ _ _ _ _ _ _ _ _ HBW.out rfl rfl
end Go.Proofs.Ytbkmnboicihchaa
namespace Go.Proofs.Ytbkmnboicihchaa
set_option maxRecDepth 100000
set_option maxHeartbeats 8000000
set_option linter.unusedSimpArgs false
set_option linter.unusedVariables false
open Go Go.RowKit Go.Shelf Go.Maps
theorem ix_atI {o : Oper} {ρ : Operand → Value} {w : World} (x y : Operand) (ho : o.op = .indexAddr 62 x y) (g ln cap i : Nat) (hx : ρ x = .slice (some ⟨g,0,none⟩) ln cap) (hy : ρ y = .int .i64 i) (hi : i < ln) : (execOp ρ o).run Try.prog w = .ok (.value (.pointer (some ⟨g,i * 2,none⟩))) w:=by
 have h1 : (0 : Int) ≤ i:=by omega
 have h2 : (i : Int) < ln:=by omega
 unfold execOp
 simp only [ho,hx,hy]
 simp [go_sem,h1,h2]
theorem eqCn_run {o : Oper} {ρ : Operand → Value} {w : World} (x y : Operand) (ho : o.op = .binOp .eql 39 x y 39) (a : Cn) (hx : ρ x = .agg a.cells.toArray) (hy : ρ y = .agg a.cells.toArray) : (execOp ρ o).run Try.prog w = .ok (.value (.bool true)) w:=by
 have h:=eqC w a a
 rw [decide_eq_true rfl] at h
 have h' : (Op.equalIn 10000 39 (.agg a.cells.toArray) (.agg a.cells.toArray)).run Try.prog w = .ok true w:=h
 clear h
 obtain ⟨xa,hxa⟩ : ∃ xa,xa = a.cells.toArray:=⟨_,rfl⟩
 rw [← hxa] at hx hy h'
 clear hxa
 have h0 : (binOp .eql 39 (.agg xa) (.agg xa)) = ((Op.equalIn 10000 39 (.agg xa) (.agg xa)) >>= fun b => pure (.bool b)):=rfl
 have h1 : (binOp .eql 39 (.agg xa) (.agg xa)).run Try.prog w = .ok (.bool true) w:=by
   rw [h0,Sem.run_bind,h']; rfl
 unfold execOp
 have h2 : (eqGuard .eql 39 x y (.agg xa) (.agg xa)).run Try.prog w = .ok () w:=by kernel_rfl
 simp only [ho,hx,hy,Sem.run_bind,h2,h1,Result.andThen_ok]
 rfl
theorem ldBo_run {o : Oper} {ρ : Operand → Value} {w : World} (x : Operand) (ho : o.op = .load 4 x) (p : Addr) (hx : ρ x = .pointer (some p)) (v : Value) (hc : w.cell? p = some v) : (execOp ρ o).run Try.prog w = .ok (.value v) w:=by
 unfold execOp
 simp only [ho,hx]
 simp [go_sem,hc]
theorem fr19 (u0 u1 u2 u4 u5 u6 u7 u10 u12 u13 u14 u17 u18 u19 u20 u21 u22 u23 u24 u25 u26 u27 u28 u29 u30 u31 u32 u33 u34 u35 u36 u37 u38 u39 u40 u41 u42 u43 u44 u45 u46 u47 u48 u49 u50 u51 u52 u53 u54 u55 u56 u57 u58 u59 u60 u61 u62 u63 u64 u65 u66 u67 u68 u69 u70 u71 u72 u73 u74 u75 u76 u77 u78 u79 u80 u81 u82 u83 u84 u85 u86 u87 u88 u89 u90 u91 u92 u93 u94 u95 u96 u97 u98 u99 u100 u101 u102 u103 u104 u105 u106 u107 u108 u109 u110 u111 u112 u113 u114 u115 u116 u117 u118 u119 u120 u121 u122 u123 u124 u125 u126 u127 u128 u129 u130 u131 u132 u133 u134 u135 u136 u137 u138 u139 u140 u141 u142 u143 u144 u145 u146 u147 u148 u149 u150 u151 u152 : Value) (W : World) (R0 : Ending → World → Prop) (g3 g11 : Nat) (row col : Int) (cn : Cn) (R K : List Ik) (A1 A2 A' : Option Addr) (c1 c2 c' lo : Nat) (r : Tr)
   (hc : W.heap[g3]? = some (.cells cn.cells.toArray 39)) (h11 : W.heap[g11]? = some (.cells (nodeA r.d A' r.l.length c') 44)) (hR : W.ownsRow lo 31 2 (.slice A1 R.length c1) R.length (ikCells R)) (hK : W.ownsRow lo 31 2 (.slice A2 K.length c2) K.length (ikCells K)) (hRl : R.length ≤ 1000) (hKl : K.length ≤ 1000)
   (hout : row < 0 ∨ col < 0 ∨ (R.length : Int) ≤ row ∨ (K.length : Int) ≤ col → r = .mk lostND [])
   (hin : ∀ (i j : Nat) (hi : i < R.length) (hj : j < K.length),row = i → col = j → r = .mk { cornD cn with a:=cn.put' R[i] K[j] } [])
   (hret : ∀ W',Below W.heap.size W W' → R0 (.returned (.bool true)) W') :
   (fromRegion 19 readsC).wp Try.prog (bodyPost Try.prog Try.f5 R0) ⟨#[u0,u1,u2,.pointer (some ⟨g3,0,none⟩),u4,u5,u6,u7,.slice A1 R.length c1,.slice A2 K.length c2,u10,.pointer (some ⟨g11,0,none⟩),u12,u13,u14,.int .i64 row,.int .i64 col,u17,u18,u19,u20,u21,u22,u23,u24,u25,u26,u27,u28,u29,u30,u31,u32,u33,u34,u35,u36,u37,u38,u39,u40,u41,u42,u43,u44,u45,u46,u47,u48,u49,u50,u51,u52,u53,u54,u55,u56,u57,u58,u59,u60,u61,u62,u63,u64,u65,u66,u67,u68,u69,u70,u71,u72,u73,u74,u75,u76,u77,u78,u79,u80,u81,u82,u83,u84,u85,u86,u87,u88,u89,u90,u91,u92,u93,u94,u95,u96,u97,u98,u99,u100,u101,u102,u103,u104,u105,u106,u107,u108,u109,u110,u111,u112,u113,u114,u115,u116,u117,u118,u119,u120,u121,u122,u123,u124,u125,u126,u127,u128,u129,u130,u131,u132,u133,u134,u135,u136,u137,u138,u139,u140,u141,u142,u143,u144,u145,u146,u147,u148,u149,u150,u151,u152],[]⟩ W:=by
 dsimp only
 obtain ⟨nr,hnr⟩ : ∃ n,n = R.length:=⟨_,rfl⟩
 obtain ⟨nk,hnk⟩ : ∃ n,n = K.length:=⟨_,rfl⟩
 have hcr : nr ≤ c1 ∧ c1 ≤ 9223372036854775807:=by obtain ⟨_,_,e,h1,h2⟩:=own_parts hR; cases e; rw [hnr]; exact ⟨h1,h2⟩
 have hck : nk ≤ c2 ∧ c2 ≤ 9223372036854775807:=by obtain ⟨_,_,e,h1,h2⟩:=own_parts hK; cases e; rw [hnk]; exact ⟨h1,h2⟩
 obtain ⟨hcr1,hcr2⟩:=hcr
 obtain ⟨hck1,hck2⟩:=hck
 by_cases hin' : row < 0 ∨ col < 0 ∨ (R.length : Int) ≤ row ∨ (K.length : Int) ≤ col
 · obtain rfl:=hout hin'
   have k0 : W.cell? ⟨g11,0,none⟩ = some (.int .i64 0):=cell_of_row _ _ 0 _ _ _ h11
   have k6 : W.cell? ⟨g11,6,none⟩ = some (.int .i64 3):=cell_of_row _ _ 6 _ _ _ h11
   have HRET:=Lib.hid (hret W (Below.refl _ W))
   rw [← hnr,← hnk] at hin' ⊢
   clear hc h11 hR hK hRl hKl hout hin hret hnr hnk
   conv => arg 2; whnf; repeat (arg 2; whnf)
   by_cases q1 : row < 0
   · clear hin'
     go_wp2
     exact HRET.out
   by_cases q2 : col < 0
   · clear hin'
     go_wp2
     exact HRET.out
   by_cases q3 : (nr : Int) ≤ row
   · clear hin'
     have HD1:=Lib.hid (decide_eq_false q1)
     have HD2:=Lib.hid (decide_eq_false q2)
     go_wp2
     exact HRET.out
   · have q4 : (nk : Int) ≤ col:=by omega
     clear hin'
     go_wp2
     exact HRET.out
 · obtain ⟨i,hi⟩ : ∃ i : Nat,row = i:=⟨row.toNat,by omega⟩
   obtain ⟨j,hj⟩ : ∃ j : Nat,col = j:=⟨col.toNat,by omega⟩
   subst hi hj
   have hil : i < R.length:=by omega
   have hjl : j < K.length:=by omega
   obtain rfl:=hin i j hil hjl rfl rfl
   obtain ⟨b1,rfl,hr1⟩:=ik_row_at hR hil
   obtain ⟨b2,rfl,hr2⟩:=ik_row_at hK hjl
   obtain ⟨ya,hya⟩ : ∃ y,y = R[i].a:=⟨_,rfl⟩
   obtain ⟨yn,hyn⟩ : ∃ y,y = R[i].n:=⟨_,rfl⟩
   obtain ⟨xa,hxa⟩ : ∃ y,y = K[j].a:=⟨_,rfl⟩
   obtain ⟨xn,hxn⟩ : ∃ y,y = K[j].n:=⟨_,rfl⟩
   obtain ⟨ra,rn,ca,cc,fr,fc⟩:=cn
   have hcA : (Cn.put' ⟨ra,rn,ca,cc,fr,fc⟩ R[i] K[j]) = ⟨ya,yn,xa,xn,fr,fc⟩:=by rw [hya,hyn,hxa,hxn]; rfl
   rw [hcA] at h11
   rw [← hya,← hyn,Nat.zero_add] at hr1
   rw [← hxa,← hxn,Nat.zero_add] at hr2
   have hblk : ∀ {b : Nat} {cs : List Value} {o : Nat},W.rangeAt b o cs → 0 < cs.length → b < W.heap.size:=fun {b cs o} h h0 => by
     have:=h 0 cs[0] (List.getElem?_eq_getElem h0)
     exact World.block_lt_of_cell? _ ⟨b,o + 0,none⟩ this
   have hb1:=hblk hr1 (by simp)
   have hb2:=hblk hr2 (by simp)
   have HTR:=Lib.hid (fun (wz : World) (h : Below W.heap.size W wz) => show wz.rangeAt b1 (i * 2) [.int .i64 ya,.int .i64 yn] ∧ wz.rangeAt b2 (j * 2) [.int .i64 xa,.int .i64 xn] ∧ wz.cell? ⟨g11,0,none⟩ = some (.int .i64 1) ∧ wz.rangeAt g11 8 (Cn.cells ⟨ya,yn,xa,xn,fr,fc⟩) ∧ wz.cell? ⟨g3,4,none⟩ = some (.bool fr) ∧ wz.cell? ⟨g3,5,none⟩ = some (.bool fc) from by
     have h11':=(h.block g11 (Array.getElem?_eq_some_iff.1 h11).1).trans h11
     have hc':=(h.block g3 (Array.getElem?_eq_some_iff.1 hc).1).trans hc
     refine ⟨fun k v hv => (World.cell?_of_block (a:=⟨b1,i * 2 + k,none⟩) (h.block b1 hb1)).trans (hr1 k v hv),fun k v hv => (World.cell?_of_block (a:=⟨b2,j * 2 + k,none⟩) (h.block b2 hb2)).trans (hr2 k v hv),cell_of_row _ _ 0 _ _ _ h11',fun k v hv => ?_,cell_of_row _ _ 4 _ _ _ hc',cell_of_row _ _ 5 _ _ _ hc'⟩
     rw [cell_of_row _ _ (8 + k) _ _ _ h11']
     match k,hv with
     | 0,hv => exact hv
     | 1,hv => exact hv
     | 2,hv => exact hv
     | 3,hv => exact hv
     | 4,hv => exact hv
     | 5,hv => exact hv)
   have HRET:=Lib.hid (fun W' (h : Below W.heap.size W W') => hret W' h)
   rw [← hnr] at hil
   rw [← hnk] at hjl
   rw [← hnr,← hnk]
   have HI:=Lib.hid (And.intro hil hjl)
   have HUC:=Lib.hid undCnR
   have HIL:=Lib.hid (show ∀ a b : Value,(Try.prog.info? 31).map (·.size) = some [a,b].length from fun _ _ => infIk)
   have HIC : Hid ((Try.prog.info? 39).map (·.size) = some (Cn.cells ⟨ya,yn,xa,xn,fr,fc⟩).length):=Lib.hid infCnR
   have q1 : ¬ (i : Int) < 0:=by omega
   have q2 : ¬ (j : Int) < 0:=by omega
   have q3 : ¬ (nr : Int) ≤ i:=by omega
   have q4 : ¬ (nk : Int) ≤ j:=by omega
   clear hc h11 hR hK hRl hKl hout hin hret hnr hnk hin' hr1 hr2 hya hyn hxa hxn hcA hblk hb1 hb2 hil hjl
   conv => arg 2; whnf; repeat (arg 2; whnf)
   go_upto_region 21 with (fail)
   refine wp_region_held_drew (S:=fun wz => Below W.heap.size W wz) (by kernel_rfl) (Below.refl _ W).drew (fun hHeld => ?_)
   refine wpAnyH_take (i:=0) (v:=.pointer (some ⟨g11,0,none⟩)) rfl (by kernel_rfl) (by kernel_rfl) (by kernel_rfl) (fun _ _ _ h => h) (Or.inl ⟨by kernel_rfl,fun _ hS => by kernel_rfl⟩) hHeld ?_
   try simp only [sX]
   refine wpAnyH_take (i:=1) (v:=.int .i64 1) rfl (by kernel_rfl) (by kernel_rfl) (by kernel_rfl) (fun _ _ _ h => h) (Or.inl ⟨by kernel_rfl,fun _ hS => ldIn_run _ rfl ⟨g11,0,none⟩ rfl _ (HTR.out _ hS).2.2.1⟩) hHeld ?_
   try simp only [sX]
   refine wpAnyH_take (i:=2) (v:=.bool true) rfl (by kernel_rfl) (by kernel_rfl) (by kernel_rfl) (fun _ _ _ h => h) (Or.inl ⟨by kernel_rfl,fun _ hS => by kernel_rfl⟩) hHeld ?_
   try simp only [sX]
   refine wpAnyH_take (i:=3) (v:=.bool true) rfl (by kernel_rfl) (by kernel_rfl) (by kernel_rfl) (fun _ _ _ h => h) (Or.inl ⟨by kernel_rfl,fun _ hS => by kernel_rfl⟩) hHeld ?_
   try simp only [sX]
   refine wpAnyH_take (i:=4) (v:=.pointer (some ⟨g11,8,none⟩)) rfl (by kernel_rfl) (by kernel_rfl) (by kernel_rfl) (fun _ _ _ h => h) (Or.inl ⟨by kernel_rfl,fun _ hS => by kernel_rfl⟩) hHeld ?_
   try simp only [sX]
   refine wpAnyH_take (i:=5) (v:=.pointer (some ⟨g11,8,none⟩)) rfl (by kernel_rfl) (by kernel_rfl) (by kernel_rfl) (fun _ _ _ h => h) (Or.inl ⟨by kernel_rfl,fun _ hS => by kernel_rfl⟩) hHeld ?_
   try simp only [sX]
   refine wpAnyH_take (i:=6) (v:=.agg (Cn.cells ⟨ya,yn,xa,xn,fr,fc⟩).toArray) rfl (by kernel_rfl) (by kernel_rfl) (by kernel_rfl) (fun _ _ _ h => h) (yieldsIf_load_mid (by kernel_rfl) 39 _ rfl g11 8 rfl (Cn.cells ⟨ya,yn,xa,xn,fr,fc⟩) _ (fun _ hS => (HTR.out _ hS).2.2.2.1) HUC.out rfl HIC.out) hHeld ?_
   try simp only [sX]
   refine wpAnyH_take (i:=7) (v:=.slice (some ⟨b1,0,none⟩) nr c1) rfl (by kernel_rfl) (by kernel_rfl) (by kernel_rfl) (fun _ _ _ h => h) (Or.inl ⟨by kernel_rfl,fun _ hS => by kernel_rfl⟩) hHeld ?_
   try simp only [sX]
   refine wpAnyH_take (i:=8) (v:=.int .i64 (i : Nat)) rfl (by kernel_rfl) (by kernel_rfl) (by kernel_rfl) (fun _ _ _ h => h) (Or.inl ⟨by kernel_rfl,fun _ hS => by kernel_rfl⟩) hHeld ?_
   try simp only [sX]
   refine wpAnyH_take (i:=9) (v:=.pointer (some ⟨b1,i * 2,none⟩)) rfl (by kernel_rfl) (by kernel_rfl) (by kernel_rfl) (fun _ _ _ h => h) (Or.inl ⟨by kernel_rfl,fun _ hS => ix_atI _ _ rfl b1 nr c1 i rfl rfl HI.out.1⟩) hHeld ?_
   try simp only [sX]
   refine wpAnyH_take (i:=10) (v:=.agg #[.int .i64 ya,.int .i64 yn]) rfl (by kernel_rfl) (by kernel_rfl) (by kernel_rfl) (fun _ _ _ h => h) (yieldsIf_load_mid (by kernel_rfl) 31 _ rfl b1 (i * 2) rfl [.int .i64 ya,.int .i64 yn] _ (fun _ hS => (HTR.out _ hS).1) ikUnd rfl (HIL.out _ _)) hHeld ?_
   try simp only [sX]
   refine wpAnyH_take (i:=11) (v:=.slice (some ⟨b2,0,none⟩) nk c2) rfl (by kernel_rfl) (by kernel_rfl) (by kernel_rfl) (fun _ _ _ h => h) (Or.inl ⟨by kernel_rfl,fun _ hS => by kernel_rfl⟩) hHeld ?_
   try simp only [sX]
   refine wpAnyH_take (i:=12) (v:=.int .i64 (j : Nat)) rfl (by kernel_rfl) (by kernel_rfl) (by kernel_rfl) (fun _ _ _ h => h) (Or.inl ⟨by kernel_rfl,fun _ hS => by kernel_rfl⟩) hHeld ?_
   try simp only [sX]
   refine wpAnyH_take (i:=13) (v:=.pointer (some ⟨b2,j * 2,none⟩)) rfl (by kernel_rfl) (by kernel_rfl) (by kernel_rfl) (fun _ _ _ h => h) (Or.inl ⟨by kernel_rfl,fun _ hS => ix_atI _ _ rfl b2 nk c2 j rfl rfl HI.out.2⟩) hHeld ?_
   try simp only [sX]
   refine wpAnyH_take (i:=14) (v:=.agg #[.int .i64 xa,.int .i64 xn]) rfl (by kernel_rfl) (by kernel_rfl) (by kernel_rfl) (fun _ _ _ h => h) (yieldsIf_load_mid (by kernel_rfl) 31 _ rfl b2 (j * 2) rfl [.int .i64 xa,.int .i64 xn] _ (fun _ hS => (HTR.out _ hS).2.1) ikUnd rfl (HIL.out _ _)) hHeld ?_
   try simp only [sX]
   refine wpAnyH_take (i:=15) (v:=.pointer (some ⟨g3,4,none⟩)) rfl (by kernel_rfl) (by kernel_rfl) (by kernel_rfl) (fun _ _ _ h => h) (Or.inl ⟨by kernel_rfl,fun _ hS => by kernel_rfl⟩) hHeld ?_
   try simp only [sX]
   refine wpAnyH_take (i:=16) (v:=.bool fr) rfl (by kernel_rfl) (by kernel_rfl) (by kernel_rfl) (fun _ _ _ h => h) (Or.inl ⟨by kernel_rfl,fun _ hS => ldBo_run _ rfl ⟨g3,4,none⟩ rfl _ (HTR.out _ hS).2.2.2.2.1⟩) hHeld ?_
   try simp only [sX]
   refine wpAnyH_take (i:=17) (v:=.pointer (some ⟨g3,5,none⟩)) rfl (by kernel_rfl) (by kernel_rfl) (by kernel_rfl) (fun _ _ _ h => h) (Or.inl ⟨by kernel_rfl,fun _ hS => by kernel_rfl⟩) hHeld ?_
   try simp only [sX]
   refine wpAnyH_take (i:=18) (v:=.bool fc) rfl (by kernel_rfl) (by kernel_rfl) (by kernel_rfl) (fun _ _ _ h => h) (Or.inl ⟨by kernel_rfl,fun _ hS => ldBo_run _ rfl ⟨g3,5,none⟩ rfl _ (HTR.out _ hS).2.2.2.2.2⟩) hHeld ?_
   try simp only [sX]
   refine wpAnyH_take (i:=19) (v:=.agg (Cn.cells ⟨ya,yn,xa,xn,fr,fc⟩).toArray) rfl (by kernel_rfl) (by kernel_rfl) (by kernel_rfl) (fun _ _ _ h => h) (Or.inl ⟨by kernel_rfl,fun _ hS => by kernel_rfl⟩) hHeld ?_
   try simp only [sX]
   refine wpAnyH_take (i:=20) (v:=.bool true) rfl (by kernel_rfl) (by kernel_rfl) (by kernel_rfl) (fun _ _ _ h => h) (Or.inl ⟨by kernel_rfl,fun _ hS => eqCn_run _ _ rfl ⟨ya,yn,xa,xn,fr,fc⟩ rfl rfl⟩) hHeld ?_
   try simp only [sX]
   refine wpAnyH_take (i:=21) (v:=.bool true) rfl (by kernel_rfl) (by kernel_rfl) (by kernel_rfl) (fun _ _ _ h => h) (Or.inl ⟨by kernel_rfl,fun _ hS => by kernel_rfl⟩) hHeld ?_
   try simp only [sX]
   refine wpAnyH_take (i:=22) (v:=.bool true) rfl (by kernel_rfl) (by kernel_rfl) (by kernel_rfl) (fun _ _ _ h => h) (Or.inl ⟨by kernel_rfl,fun _ hS => by kernel_rfl⟩) hHeld ?_
   try simp only [sX]
   have HE:=Lib.hid hHeld
   refine wpAnyH_done (by kernel_rfl) ?_ _
   clear hHeld
   go_wp2_with fail
   exact HRET.out _ HE.out
end Go.Proofs.Ytbkmnboicihchaa
namespace Go.Proofs.Ytbkmnboicihchaa
set_option maxRecDepth 100000
set_option maxHeartbeats 8000000
set_option linter.unusedSimpArgs false
set_option linter.unusedVariables false
open Go Go.RowKit Go.Shelf Go.Maps
theorem kills_alive : ∀ (l : List Ik) (L : IL),(l.foldl kill L).alive = L.alive.filter fun y => decide (y ∉ l)
 | [],L => (List.filter_eq_self.2 (fun y _ => by simp)).symm
 | x :: l,L => by
   rw [List.foldl_cons,kills_alive l (kill L x),kill_alive,List.filter_filter]
   congr 1
   funext y
   by_cases h1 : y = x <;> by_cases h2 : y ∈ l <;> simp [h1,h2]
theorem kills_live (m : Nat) (dead : List Ik) : (dead.foldl kill (allL (freshL m))).alive = liveL m dead:=by
 rw [kills_alive,allL_alive]; rfl
theorem posZ_ge {l : List Ik} {x : Ik} (h : 0 ≤ posZ l x) : ∃ p : Nat,placeL l x = some p ∧ posZ l x = p ∧ p < l.length:=by
 unfold posZ at h ⊢
 cases hp : placeL l x with
 | none => rw [hp] at h; simp at h
 | some p => exact ⟨p,rfl,rfl,(placeL_some hp).1⟩
theorem rd_4_6 : fromRegion 6 (fromRegion 4 readsC) = fromRegion 6 readsC:=by kernel_rfl
theorem fr6_end (u0 u1 u2 u5 u6 u10 u11 u12 u13 u14 u15 u16 u17 u18 u19 u20 u21 u22 u23 u24 u25 u26 u27 u28 u29 u30 u31 u32 u33 u34 u35 u36 u37 u38 u39 u40 u41 u42 u43 u44 u45 u46 u47 u48 u49 u50 u51 u52 u53 u54 u55 u56 u57 u58 u59 u60 u61 u62 u63 u64 u65 u66 u67 u68 u69 u70 u71 u72 u73 u74 u75 u76 u77 u78 u79 u80 u81 u82 u83 u84 u85 u86 u87 u88 u89 u90 u91 u92 u93 u94 u95 u96 u97 u98 u99 u100 u101 u102 u103 u104 u105 u106 u107 u108 u109 u110 u111 u112 u113 u114 u115 u116 u117 u118 u119 u120 u121 u122 u123 u124 u125 u126 u127 u128 u129 u130 u131 u132 u133 u134 u135 u136 u137 u138 u139 u140 u141 u142 u143 u144 u145 u146 u147 u148 u149 u150 u151 u152 : Value) (W : World) (R0 : Ending → World → Prop) (g3 g4 s p q : Nat) (z u : Value) (x0 x1 : Cl) (L M : IL) (cn : Cn) (A1 A2 : Option Addr) (c1 c2 lo : Nat)
   (hc : W.heap[g3]? = some (.cells cn.cells.toArray 39)) (h4 : W.heap[g4]? = some (.cells (x0.vals ++ x1.vals).toArray 77)) (hs : W.heap[s]? = some (.cells #[.pointer (some ⟨p,0,none⟩),.pointer (some ⟨q,0,none⟩),z,u] 72)) (hax : AxW W p L) (hay : AxW W q M) (hpq : p ≠ q) (hL : L.Ok) (hM : M.Ok) (hcn : cn.ok) (hx : (x0.row.ok ∧ x0.col.ok) ∧ (x1.row.ok ∧ x1.col.ok))
   (hR : W.ownsRow lo 31 2 (.slice A1 L.alive.length c1) L.alive.length (ikCells L.alive)) (hK : W.ownsRow lo 31 2 (.slice A2 M.alive.length c2) M.alive.length (ikCells M.alive))
   (hlo : lo ≤ W.heap.size) (hlp : lo ≤ p ∧ lo ≤ q)
   (hret : ∀ w',Below lo W w' → R0 (.returned (.bool true)) w') :
   (fromRegion 6 readsC).wp Try.prog (bodyPost Try.prog Try.f5 R0) ⟨#[u0,u1,u2,.pointer (some ⟨g3,0,none⟩),.pointer (some ⟨g4,0,none⟩),u5,u6,.pointer (some ⟨s,0,none⟩),.slice A1 L.alive.length c1,.slice A2 M.alive.length c2,u10,u11,u12,u13,u14,u15,u16,u17,u18,u19,u20,u21,u22,u23,u24,u25,u26,u27,u28,u29,u30,u31,u32,u33,u34,u35,u36,u37,u38,u39,u40,u41,u42,u43,u44,u45,u46,u47,u48,u49,u50,u51,u52,u53,u54,u55,u56,u57,u58,u59,u60,u61,u62,u63,u64,u65,u66,u67,u68,u69,u70,u71,u72,u73,u74,u75,u76,u77,u78,u79,u80,u81,u82,u83,u84,u85,u86,u87,u88,u89,u90,u91,u92,u93,u94,u95,u96,u97,u98,u99,u100,u101,u102,u103,u104,u105,u106,u107,u108,u109,u110,u111,u112,u113,u114,u115,u116,u117,u118,u119,u120,u121,u122,u123,u124,u125,u126,u127,u128,u129,u130,u131,u132,u133,u134,u135,u136,u137,u138,u139,u140,u141,u142,u143,u144,u145,u146,u147,u148,u149,u150,u151,u152],[]⟩ W:=by
 obtain ⟨R,hRe⟩ : ∃ R,R = L.alive:=⟨_,rfl⟩
 obtain ⟨K,hKe⟩ : ∃ K,K = M.alive:=⟨_,rfl⟩
 have hRn : R.Nodup:=by rw [hRe]; exact IL.alive_nodup hL.nodup
 have hKn : K.Nodup:=by rw [hKe]; exact IL.alive_nodup hM.nodup
 have hRl : R.length ≤ 1000:=by rw [hRe]; exact Nat.le_trans (IL.alive_len L) hL.len
 have hKl : K.length ≤ 1000:=by rw [hKe]; exact Nat.le_trans (IL.alive_len M) hM.len
 rw [← hRe] at hR ⊢
 rw [← hKe] at hK ⊢
 have hlow : ∀ w',KeepZ (fun b => b = p ∨ b = q) W w' → Below lo W w':=fun w' h => h.low hlo (fun k hk => hk.elim (fun e => e ▸ hlp.1) (fun e => e ▸ hlp.2))
 refine fr6 u0 u1 u2 u5 u6 u10 u11 u12 u13 u14 u15 u16 u17 u18 u19 u20 u21 u22 u23 u24 u25 u26 u27 u28 u29 u30 u31 u32 u33 u34 u35 u36 u37 u38 u39 u40 u41 u42 u43 u44 u45 u46 u47 u48 u49 u50 u51 u52 u53 u54 u55 u56 u57 u58 u59 u60 u61 u62 u63 u64 u65 u66 u67 u68 u69 u70 u71 u72 u73 u74 u75 u76 u77 u78 u79 u80 u81 u82 u83 u84 u85 u86 u87 u88 u89 u90 u91 u92 u93 u94 u95 u96 u97 u98 u99 u100 u101 u102 u103 u104 u105 u106 u107 u108 u109 u110 u111 u112 u113 u114 u115 u116 u117 u118 u119 u120 u121 u122 u123 u124 u125 u126 u127 u128 u129 u130 u131 u132 u133 u134 u135 u136 u137 u138 u139 u140 u141 u142 u143 u144 u145 u146 u147 u148 u149 u150 u151 u152 _ _ W R0 g3 g4 s p q z u x0 x1 L M cn hc h4 hs hax hay hpq hL hM hcn hx ?_
 intro w1 g11 A' c' u0 u1 u2 u5 u6 u10 u12 u13 u14 u15 u16 u17 u18 u19 u20 u21 u22 u23 u24 u25 u26 u27 u28 u29 u30 u31 u32 u33 u34 u35 u36 u37 u38 u39 u40 u41 u42 u43 u44 u45 u46 u47 u48 u49 u50 u51 u52 u53 u54 u55 u56 u57 u58 u59 u60 u61 u62 u63 u64 u65 u66 u67 u68 u69 u70 u71 u72 u73 u74 u75 u76 u77 u78 u79 u80 u81 u82 u83 u84 u85 u86 u87 u88 u89 u90 u91 u92 u93 u94 u95 u96 u97 u98 u99 u100 u101 u102 u103 u104 u105 u106 u107 u108 u109 u110 u111 u112 u113 u114 u115 u116 u117 u118 u119 u120 u121 u122 u123 u124 u125 u126 u127 u128 u129 u130 u131 u132 u133 u134 u135 u136 u137 u138 u139 u140 u141 u142 u143 u144 u145 u146 u147 u148 u149 u150 u151 u152 hk1 hg11 h11
 obtain ⟨csp,hcp⟩:=hax.own
 obtain ⟨csq,hcq⟩:=hay.own
 have hne : ∀ {b : Nat} {cs : Array Value} {ty : TypeId},W.heap[b]? = some (.cells cs ty) → ty ≠ 110 → ¬ (b = p ∨ b = q):=fun h1 h2 h3 => by
   rcases h3 with rfl | rfl
   · rw [h1] at hcp; cases hcp; exact h2 rfl
   · rw [h1] at hcq; cases hcq; exact h2 rfl
 have hkb : ∀ {b : Nat} {cs : Array Value} {ty : TypeId},W.heap[b]? = some (.cells cs ty) → ty ≠ 110 → w1.heap[b]? = some (.cells cs ty):=fun h1 h2 => (hk1.block _ (Array.getElem?_eq_some_iff.1 h1).1 (hne h1 h2)).trans h1
 have hko : ∀ {v : Value} {n : Nat} {xs : List Value},W.ownsRow lo 31 2 v n xs → w1.ownsRow lo 31 2 v n xs:=fun h => own_sameA h (fun k c hg _ => hk1.block k (Array.getElem?_eq_some_iff.1 hg).1 (hne hg (by decide)))
 have hb1:=hlow w1 hk1
 have hl1 : lo ≤ w1.heap.size:=Nat.le_trans hlo hk1.size
 have hc1:=hkb hc (by decide)
 have h41:=hkb h4 (by decide)
 have hR1:=hko hR
 have hK1:=hko hK
 refine fr7 u0 u1 u2 u5 u6 u10 u12 u13 u14 u15 u16 u17 u18 u19 u20 u21 u22 u23 u24 u25 u26 u27 u28 u29 u30 u31 u32 u33 u34 u35 u36 u37 u38 u39 u40 u41 u42 u43 u44 u45 u46 u47 u48 u49 u50 u51 u52 u53 u54 u55 u56 u57 u58 u59 u60 u61 u62 u63 u64 u65 u66 u67 u68 u69 u70 u71 u72 u73 u74 u75 u76 u77 u78 u79 u80 u81 u82 u83 u84 u85 u86 u87 u88 u89 u90 u91 u92 u93 u94 u95 u96 u97 u98 u99 u100 u101 u102 u103 u104 u105 u106 u107 u108 u109 u110 u111 u112 u113 u114 u115 u116 u117 u118 u119 u120 u121 u122 u123 u124 u125 u126 u127 u128 u129 u130 u131 u132 u133 u134 u135 u136 u137 u138 u139 u140 u141 u142 u143 u144 u145 u146 u147 u148 u149 u150 u151 u152 w1 R0 g3 g4 g11 s lo x0 x1 cn R K A1 A2 c1 c2 hc1 h41 hR1 hK1 hRl hKl ?_
 intro w2 g12 u0 u1 u2 u5 u6 u10 u13 u14 u15 u16 u17 u18 u19 u20 u21 u22 u23 u24 u25 u26 u27 u28 u29 u30 u31 u32 u33 u34 u35 u36 u37 u38 u39 u40 u41 u42 u43 u44 u45 u46 u47 u48 u49 u50 u51 u52 u53 u54 u55 u56 u57 u58 u59 u60 u61 u62 u63 u64 u65 u66 u67 u68 u69 u70 u71 u72 u73 u74 u75 u76 u77 u78 u79 u80 u81 u82 u83 u84 u85 u86 u87 u88 u89 u90 u91 u92 u93 u94 u95 u96 u97 u98 u99 u100 u101 u102 u103 u104 u105 u106 u107 u108 u109 u110 u111 u112 u113 u114 u115 u116 u117 u118 u119 u120 u121 u122 u123 u124 u125 u126 u127 u128 u129 u130 u131 u132 u133 u134 u135 u136 u137 u138 u139 u140 u141 u142 u143 u144 u145 u146 u147 u148 u149 u150 u151 u152 hb2 h12
 have hb12 : Below lo W w2:=hb1.trans (hb2.mono hl1)
 have hl2 : lo ≤ w2.heap.size:=Nat.le_trans hl1 hb2.size
 refine fr8 _ _ _ _ _ _ _ _ _ _ _ _ _ _ _ _ _ _ _ _ _ _ _ _ _ _ _ _ _ _ _ _ _ _ _ _ _ _ _ _ _ _ _ _ _ _ _ _ _ _ _ _ _ _ _ _ _ _ _ _ _ _ _ _ _ _ _ _ _ _ _ _ _ _ _ _ _ _ _ _ _ _ _ _ _ _ _ _ _ _ _ _ _ _ _ _ _ _ _ _ _ _ _ _ _ _ _ _ _ _ _ _ _ _ _ _ _ _ _ _ _ _ _ _ _ _ _ _ _ _ _ _ _ _ _ _ _ _ _ _ _ _ _ _ _ _ _ _ _ _ w2 R0 g3 g11 g12 _ _ _ _ _ _ h12 (hret w2 hb12) ?_
 intro u0 u1 u2 u4 u5 u6 u7 u10 u13 u14 u15 u16 u17 u18 u19 u20 u21 u22 u23 u24 u25 u26 u27 u28 u29 u30 u31 u32 u33 u34 u35 u36 u37 u38 u39 u40 u41 u42 u43 u44 u45 u46 u47 u48 u49 u50 u51 u52 u53 u54 u55 u56 u57 u58 u59 u60 u61 u62 u63 u64 u65 u66 u67 u68 u69 u70 u71 u72 u73 u74 u75 u76 u77 u78 u79 u80 u81 u82 u83 u84 u85 u86 u87 u88 u89 u90 u91 u92 u93 u94 u95 u96 u97 u98 u99 u100 u101 u102 u103 u104 u105 u106 u107 u108 u109 u110 u111 u112 u113 u114 u115 u116 u117 u118 u119 u120 u121 u122 u123 u124 u125 u126 u127 u128 u129 u130 u131 u132 u133 u134 u135 u136 u137 u138 u139 u140 u141 u142 u143 u144 u145 u146 u147 u148 u149 u150 u151 u152 z0 z1 z2 z3 z4 z5
 obtain ⟨p0,e0,f0,l0⟩:=posZ_ge z0
 obtain ⟨p1,e1,f1,l1⟩:=posZ_ge z1
 obtain ⟨p2,e2,f2,l2⟩:=posZ_ge z2
 obtain ⟨p3,e3,f3,l3⟩:=posZ_ge z3
 obtain ⟨p4,e4,f4,l4⟩:=posZ_ge z4
 obtain ⟨p5,e5,f5,l5⟩:=posZ_ge z5
 rw [f0,f1,f2,f3,f4,f5] at h12
 refine fr14 _ _ _ _ _ _ _ _ _ _ _ _ _ _ _ _ _ _ _ _ _ _ _ _ _ _ _ _ _ _ _ _ _ _ _ _ _ _ _ _ _ _ _ _ _ _ _ _ _ _ _ _ _ _ _ _ _ _ _ _ _ _ _ _ _ _ _ _ _ _ _ _ _ _ _ _ _ _ _ _ _ _ _ _ _ _ _ _ _ _ _ _ _ _ _ _ _ _ _ _ _ _ _ _ _ _ _ _ _ _ _ _ _ _ _ _ _ _ _ _ _ _ _ _ _ _ _ _ _ _ _ _ _ _ _ _ _ _ _ _ _ _ _ _ _ _ _ _ _ _ w2 R0 g3 g11 g12 p0 p1 p2 p3 p4 p5 cn h12 ((hb2.block g3 (Array.getElem?_eq_some_iff.1 hc1).1).trans hc1) ⟨⟨by omega,by omega⟩,⟨by omega,by omega⟩,⟨by omega,by omega⟩,⟨by omega,by omega⟩,⟨by omega,by omega⟩,⟨by omega,by omega⟩⟩ ?_
 intro w3 row col u0 u1 u2 u4 u5 u6 u7 u10 u12 u13 u14 u17 u18 u19 u20 u21 u22 u23 u24 u25 u26 u27 u28 u29 u30 u31 u32 u33 u34 u35 u36 u37 u38 u39 u40 u41 u42 u43 u44 u45 u46 u47 u48 u49 u50 u51 u52 u53 u54 u55 u56 u57 u58 u59 u60 u61 u62 u63 u64 u65 u66 u67 u68 u69 u70 u71 u72 u73 u74 u75 u76 u77 u78 u79 u80 u81 u82 u83 u84 u85 u86 u87 u88 u89 u90 u91 u92 u93 u94 u95 u96 u97 u98 u99 u100 u101 u102 u103 u104 u105 u106 u107 u108 u109 u110 u111 u112 u113 u114 u115 u116 u117 u118 u119 u120 u121 u122 u123 u124 u125 u126 u127 u128 u129 u130 u131 u132 u133 u134 u135 u136 u137 u138 u139 u140 u141 u142 u143 u144 u145 u146 u147 u148 u149 u150 u151 u152 hb3 hrow hcol
 have hc2:=(hb2.block g3 (Array.getElem?_eq_some_iff.1 hc1).1).trans hc1
 have h112:=(hb2.block g11 (Array.getElem?_eq_some_iff.1 h11).1).trans h11
 have hfr:=fill_reads hRn hKn (x:=x0) (y:=x1) (d:=cornD cn) rfl e0 e1 e2 e3 e4 e5
 dsimp only at hfr
 obtain ⟨k1,k2⟩:=hfr
 have hrow' : row = (if (cornD cn).a.fr then (p0 : Int) else p0 + p4 - p2):=hrow
 have hcol' : col = (if (cornD cn).a.fc then (p1 : Int) else p1 + p5 - p3):=hcol
 rw [← hrow',← hcol'] at k1 k2
 rw [← hRe,← hKe] at h112
 exact fr19 u0 u1 u2 u4 u5 u6 u7 u10 u12 u13 u14 u17 u18 u19 u20 u21 u22 u23 u24 u25 u26 u27 u28 u29 u30 u31 u32 u33 u34 u35 u36 u37 u38 u39 u40 u41 u42 u43 u44 u45 u46 u47 u48 u49 u50 u51 u52 u53 u54 u55 u56 u57 u58 u59 u60 u61 u62 u63 u64 u65 u66 u67 u68 u69 u70 u71 u72 u73 u74 u75 u76 u77 u78 u79 u80 u81 u82 u83 u84 u85 u86 u87 u88 u89 u90 u91 u92 u93 u94 u95 u96 u97 u98 u99 u100 u101 u102 u103 u104 u105 u106 u107 u108 u109 u110 u111 u112 u113 u114 u115 u116 u117 u118 u119 u120 u121 u122 u123 u124 u125 u126 u127 u128 u129 u130 u131 u132 u133 u134 u135 u136 u137 u138 u139 u140 u141 u142 u143 u144 u145 u146 u147 u148 u149 u150 u151 u152 w3 R0 g3 g11 row col cn R K A1 A2 A' c1 c2 c' lo _ ((hb3.block g3 (Array.getElem?_eq_some_iff.1 hc2).1).trans hc2) ((hb3.block g11 (Array.getElem?_eq_some_iff.1 h112).1).trans h112) (own_blk_keep (own_blk_keep hR1 hb2) hb3) (own_blk_keep (own_blk_keep hK1 hb2) hb3) hRl hKl k1 (fun i j hi hj e1 e2 => k2 i j hi hj e1 e2) (fun W' h => hret W' ((hb12.trans (hb3.mono hl2)).trans (h.mono (Nat.le_trans hl2 hb3.size))))
theorem fillReads_c (cn : Cn) (x0 x1 : Cl) (P : Pn) (w : World) (Adx : Option Addr) (cd : Nat) (Acx : Option Addr) (cc : Nat)
   (hcn : cn.ok) (hx : (x0.row.ok ∧ x0.col.ok) ∧ (x1.row.ok ∧ x1.col.ok)) (hr : P.rows < 256) (hc : P.cols < 256) (hdd : AdSl w w.heap.size Adx cd P.dead) (hce : ACSl w w.heap.size Acx cc P.cells) :
   Calls Try.prog 5 #[.agg cn.cells.toArray,.agg (x0.vals ++ x1.vals).toArray,.agg (P.val Adx cd Acx cc)] w fun e w' => e = .returned (.bool true) ∧ Below w.heap.size w w':=by
 obtain ⟨g,hg⟩ : ∃ g,g = w.heap.size:=⟨_,rfl⟩
 obtain ⟨NV,hNV⟩ : ∃ N,N = cn.cells.toArray:=⟨_,rfl⟩
 obtain ⟨XV,hXV⟩ : ∃ N,N = (x0.vals ++ x1.vals).toArray:=⟨_,rfl⟩
 obtain ⟨PV,hPV⟩ : ∃ N,N = P.val Adx cd Acx cc:=⟨_,rfl⟩
 obtain ⟨W,hW⟩ : ∃ W,W = ((w.alloc (.cells NV 39)).alloc (.cells XV 77)).alloc (.cells PV 61):=⟨_,rfl⟩
 have hbW : Below w.heap.size w W:=by rw [hW]; exact (((Below.refl _ w).alloc (Nat.le_refl _) _).alloc (by simp) _).alloc (by simp; omega) _
 have hk0 : W.heap[g]? = some (.cells NV 39) ∧ W.heap[g + 1]? = some (.cells XV 77) ∧ W.heap[g + 2]? = some (.cells PV 61):=by
   rw [hW,hg]
   refine ⟨?_,?_,?_⟩ <;> (simp only [heapAllocIf,World.size_alloc]; repeat (first | rw [if_pos trivial] | rw [if_pos (by omega)] | rw [if_neg (by omega)]))
 have hWs : W.heap.size = g + 3:=by rw [hW,hg]; simp
 have hinP : (Try.prog.info? 61).map (·.size) = some PV.size:=by rw [hPV]; kernel_rfl
 have hunP : Try.prog.underlying 61 = some (.struct (Try.prog.fieldsOf 61)):=by kernel_rfl
 have hBD : ∀ wx,Below W.heap.size W wx → wx.heap[g + 2]? = some (.cells PV 61) ∧ Calls Try.prog 12 #[.agg PV] wx (BuiltPost P wx):=fun wx h => by
   have hbx:=hbW.trans (h.mono hbW.size)
   refine ⟨(h.block _ (by omega)).trans hk0.2.2,?_⟩
   rw [hPV]
   exact build_c P wx Adx cd Acx cc hr hc (hdd.below hbx hbx.size) (hce.below hbx hbx.size)
 have hFB : ∀ (w1 W2 : World) (s p q ce na n : Nat) (A1 A2 : Option Addr) (c1 c2 : Nat) (C : List (Ad × Ct)) (Zr Zc Zs : Nat → Prop), Below W.heap.size W w1 → Below w1.heap.size w1 W2 → ShZ W2 w1.heap.size s p q ce na n ((P.dead.map Ad.row).foldl kill (allL (freshL (P.rows % 10)))) ((P.dead.map Ad.col).foldl kill (allL (freshL (P.cols % 10)))) C Zr Zc Zs →
     W2.ownsRow w1.heap.size 31 2 (.slice A1 (liveL (P.rows % 10) (P.dead.map Ad.row)).length c1) (liveL (P.rows % 10) (P.dead.map Ad.row)).length (ikCells (liveL (P.rows % 10) (P.dead.map Ad.row))) → W2.ownsRow w1.heap.size 31 2 (.slice A2 (liveL (P.cols % 10) (P.dead.map Ad.col)).length c2) (liveL (P.cols % 10) (P.dead.map Ad.col)).length (ikCells (liveL (P.cols % 10) (P.dead.map Ad.col))) →
     ∀ (u0 u1 u2 u5 u6 u11 u12 u13 u14 u15 u16 u17 u18 u19 u20 u21 u22 u23 u24 u25 u26 u27 u28 u29 u30 u31 u32 u33 u34 u35 u36 u37 u38 u39 u40 u41 u42 u43 u44 u45 u46 u47 u48 u49 u50 u51 u52 u53 u54 u55 u56 u57 u58 u59 u60 u61 u62 u63 u64 u65 u66 u67 u68 u69 u70 u71 u72 u73 u74 u75 u76 u77 u78 u79 u80 u81 u82 u83 u84 u85 u86 u87 u88 u89 u90 u91 u92 u93 u94 u95 u96 u97 u98 u99 u100 u101 u102 u103 u104 u105 u106 u107 u108 u109 u110 u111 u112 u113 u114 u115 u116 u117 u118 u119 u120 u121 u122 u123 u124 u125 u126 u127 u128 u129 u130 u131 u132 u133 u134 u135 u136 u137 u138 u139 u140 u141 u142 u143 u144 u145 u146 u147 u148 u149 u150 u151 u152 : Value),(fromRegion 4 readsC).wp Try.prog (bodyPost Try.prog Try.f5 (fun e w' => e = .returned (.bool true) ∧ Below w.heap.size w w')) ⟨#[u0,u1,u2,.pointer (some ⟨g,0,none⟩),.pointer (some ⟨g + 1,0,none⟩),u5,u6,.pointer (some ⟨s,0,none⟩),.slice A1 (liveL (P.rows % 10) (P.dead.map Ad.row)).length c1,.slice A2 (liveL (P.cols % 10) (P.dead.map Ad.col)).length c2,.int .i64 1,u11,u12,u13,u14,u15,u16,u17,u18,u19,u20,u21,u22,u23,u24,u25,u26,u27,u28,u29,u30,u31,u32,u33,u34,u35,u36,u37,u38,u39,u40,u41,u42,u43,u44,u45,u46,u47,u48,u49,u50,u51,u52,u53,u54,u55,u56,u57,u58,u59,u60,u61,u62,u63,u64,u65,u66,u67,u68,u69,u70,u71,u72,u73,u74,u75,u76,u77,u78,u79,u80,u81,u82,u83,u84,u85,u86,u87,u88,u89,u90,u91,u92,u93,u94,u95,u96,u97,u98,u99,u100,u101,u102,u103,u104,u105,u106,u107,u108,u109,u110,u111,u112,u113,u114,u115,u116,u117,u118,u119,u120,u121,u122,u123,u124,u125,u126,u127,u128,u129,u130,u131,u132,u133,u134,u135,u136,u137,u138,u139,u140,u141,u142,u143,u144,u145,u146,u147,u148,u149,u150,u151,u152],[]⟩ W2:=by
   intro w1 W2 s p q ce na n A1 A2 c1 c2 C Zr Zc Zs hb1 hb2 hsh hlr hlc u0 u1 u2 u5 u6 u11 u12 u13 u14 u15 u16 u17 u18 u19 u20 u21 u22 u23 u24 u25 u26 u27 u28 u29 u30 u31 u32 u33 u34 u35 u36 u37 u38 u39 u40 u41 u42 u43 u44 u45 u46 u47 u48 u49 u50 u51 u52 u53 u54 u55 u56 u57 u58 u59 u60 u61 u62 u63 u64 u65 u66 u67 u68 u69 u70 u71 u72 u73 u74 u75 u76 u77 u78 u79 u80 u81 u82 u83 u84 u85 u86 u87 u88 u89 u90 u91 u92 u93 u94 u95 u96 u97 u98 u99 u100 u101 u102 u103 u104 u105 u106 u107 u108 u109 u110 u111 u112 u113 u114 u115 u116 u117 u118 u119 u120 u121 u122 u123 u124 u125 u126 u127 u128 u129 u130 u131 u132 u133 u134 u135 u136 u137 u138 u139 u140 u141 u142 u143 u144 u145 u146 u147 u148 u149 u150 u151 u152
   have hbx:=hbW.trans (hb1.mono hbW.size)
   have hg1 : g + 3 ≤ w1.heap.size:=by have:=hb1.size; omega
   have hkx : ∀ {b : Nat} {cs : Array Value} {ty : TypeId},b < g + 3 → W.heap[b]? = some (.cells cs ty) → W2.heap[b]? = some (.cells cs ty):=fun h1 h2 => (hb2.block _ (by omega)).trans ((hb1.block _ (by omega)).trans h2)
   obtain ⟨a1,a2,a3⟩:=hsh.apart
   have hL6:=built_Ok P.rows (P.dead.map Ad.row)
   have hM6:=built_Ok P.cols (P.dead.map Ad.col)
   have eL:=kills_live (P.rows % 10) (P.dead.map Ad.row)
   have eM:=kills_live (P.cols % 10) (P.dead.map Ad.col)
   have hr4:=hsh.rows.ax
   have hc4:=hsh.cols.ax
   have hso:=hsh.own
   rw [← eL] at hlr ⊢
   rw [← eM] at hlc ⊢
   generalize (P.dead.map Ad.row).foldl kill (allL (freshL (P.rows % 10))) = L at hlr hr4 hL6 ⊢
   generalize (P.dead.map Ad.col).foldl kill (allL (freshL (P.cols % 10))) = M at hlc hc4 hM6 ⊢
   have hend:=fun (u0 u1 u2 u5 u6 u10 u11 u12 u13 u14 u15 u16 u17 u18 u19 u20 u21 u22 u23 u24 u25 u26 u27 u28 u29 u30 u31 u32 u33 u34 u35 u36 u37 u38 u39 u40 u41 u42 u43 u44 u45 u46 u47 u48 u49 u50 u51 u52 u53 u54 u55 u56 u57 u58 u59 u60 u61 u62 u63 u64 u65 u66 u67 u68 u69 u70 u71 u72 u73 u74 u75 u76 u77 u78 u79 u80 u81 u82 u83 u84 u85 u86 u87 u88 u89 u90 u91 u92 u93 u94 u95 u96 u97 u98 u99 u100 u101 u102 u103 u104 u105 u106 u107 u108 u109 u110 u111 u112 u113 u114 u115 u116 u117 u118 u119 u120 u121 u122 u123 u124 u125 u126 u127 u128 u129 u130 u131 u132 u133 u134 u135 u136 u137 u138 u139 u140 u141 u142 u143 u144 u145 u146 u147 u148 u149 u150 u151 u152 : Value) => fr6_end u0 u1 u2 u5 u6 u10 u11 u12 u13 u14 u15 u16 u17 u18 u19 u20 u21 u22 u23 u24 u25 u26 u27 u28 u29 u30 u31 u32 u33 u34 u35 u36 u37 u38 u39 u40 u41 u42 u43 u44 u45 u46 u47 u48 u49 u50 u51 u52 u53 u54 u55 u56 u57 u58 u59 u60 u61 u62 u63 u64 u65 u66 u67 u68 u69 u70 u71 u72 u73 u74 u75 u76 u77 u78 u79 u80 u81 u82 u83 u84 u85 u86 u87 u88 u89 u90 u91 u92 u93 u94 u95 u96 u97 u98 u99 u100 u101 u102 u103 u104 u105 u106 u107 u108 u109 u110 u111 u112 u113 u114 u115 u116 u117 u118 u119 u120 u121 u122 u123 u124 u125 u126 u127 u128 u129 u130 u131 u132 u133 u134 u135 u136 u137 u138 u139 u140 u141 u142 u143 u144 u145 u146 u147 u148 u149 u150 u151 u152 W2 (fun e w' => e = .returned (.bool true) ∧ Below w.heap.size w w') g (g + 1) s p q _ _ x0 x1 L M cn A1 A2 c1 c2 w1.heap.size (by rw [← hNV]; exact hkx (by omega) hk0.1) (by rw [← hXV]; exact hkx (by omega) hk0.2.1) hso hr4 hc4 a1 hL6 hM6 hcn hx hlr hlc hb2.size ⟨a2,a3⟩ (fun w' h => ⟨rfl,hbx.trans ((hb2.trans h).mono hbx.size)⟩)
   dsimp only at hend ⊢
   have e4:=cut_from 6 (fromRegion 4 readsC)
   rw [rd_4_6] at e4
   obtain ⟨CO,hCO⟩ : ∃ CO,CO = fromRegion 6 readsC:=⟨_,rfl⟩
   rw [← hCO] at e4 hend
   clear hCO
   have HEND:=Lib.hid hend
   clear hend hlr hlc hr4 hc4 hL6 hM6 hso hsh hkx eL eM
   rw [← e4]
   clear e4
   conv => arg 2; whnf; repeat (arg 2; whnf)
   go_wp2
   exact HEND.out _ _ _ _ _ _ _ _ _ _ _ _ _ _ _ _ _ _ _ _ _ _ _ _ _ _ _ _ _ _ _ _ _ _ _ _ _ _ _ _ _ _ _ _ _ _ _ _ _ _ _ _ _ _ _ _ _ _ _ _ _ _ _ _ _ _ _ _ _ _ _ _ _ _ _ _ _ _ _ _ _ _ _ _ _ _ _ _ _ _ _ _ _ _ _ _ _ _ _ _ _ _ _ _ _ _ _ _ _ _ _ _ _ _ _ _ _ _ _ _ _ _ _ _ _ _ _ _ _ _ _ _ _ _ _ _ _ _ _ _ _ _ _ _ _ _ _ _
 dsimp only at hFB
 have HFB:=Lib.hid hFB
 have HAW:=Lib.hid (awake28_c W)
 have HBD:=Lib.hid hBD
 have HINP:=Lib.hid hinP
 have HUNP:=Lib.hid hunP
 have HW:=Lib.hid hW
 have HG:=Lib.hid hg
 have HBW:=Lib.hid hbW
 rw [← hNV,← hXV,← hPV]
 clear hFB hBD hinP hunP hW hg hbW hk0 hWs hNV hXV hPV hcn hx hr hc hdd hce
 go_enter Try.func5,Try.ntmps5
 have e4:=cut_from 4 readsC
 obtain ⟨CO,hCO⟩ : ∃ C,C = fromRegion 4 readsC:=⟨_,rfl⟩
 rw [← hCO] at e4
 have HCO:=Lib.hid hCO
 clear hCO
 change Code.wp Try.prog readsC _ _ _
 rw [← e4]
 clear e4
 conv => arg 2; whnf; repeat (arg 2; whnf)
 go_upto_region 1 with (fail)
 change Code.wp _ _ _ _ (((w.alloc (.cells NV 39)).alloc (.cells XV 77)).alloc (.cells PV 61))
 rw [← HW.out,← HG.out]
 go_wp2_with (first | (go_at_call 6; refine HAW.out.mono ?_; rintro e w1 ⟨rfl,hb⟩; have HB:=Lib.hid hb; clear hb) | (refine wpList_row rfl 61 _ rfl (g + 2) rfl 61 PV (0,0) _ (HBD.out _ HB.out).1 HUNP.out rfl HINP.out ?_) | (go_at_call 12; refine (HBD.out _ HB.out).2.mono ?_; rintro e w2 hbp; obtain ⟨v7,v8,v9,k,rfl,hbb,hk⟩:=built_form hbp; have HBB:=Lib.hid hbb; have HKK:=Lib.hid hk; clear hbp hbb hk) | fail)
 rw [HCO.out]
 rcases HKK.out with hk | ⟨hk,s,p,q,ce,na,n,A1,c1,A2,c2,C,Zr,Zc,Zs,h7,h8,h9,hsh,hlr,hlc⟩
 · subst hk
   clear HFB HKK
   conv => arg 2; whnf; repeat (arg 2; whnf)
   go_wp2
   first | go_ret | go_ret2
   exact ⟨rfl,HBW.out.trans ((HB.out.trans (HBB.out.mono HB.out.size)).mono HBW.out.size)⟩
 · subst hk h7 h8 h9
   exact HFB.out w1 w2 s p q ce na n A1 A2 c1 c2 C Zr Zc Zs HB.out HBB.out hsh hlr hlc _ _ _ _ _ _ _ _ _ _ _ _ _ _ _ _ _ _ _ _ _ _ _ _ _ _ _ _ _ _ _ _ _ _ _ _ _ _ _ _ _ _ _ _ _ _ _ _ _ _ _ _ _ _ _ _ _ _ _ _ _ _ _ _ _ _ _ _ _ _ _ _ _ _ _ _ _ _ _ _ _ _ _ _ _ _ _ _ _ _ _ _ _ _ _ _ _ _ _ _ _ _ _ _ _ _ _ _ _ _ _ _ _ _ _ _ _ _ _ _ _ _ _ _ _ _ _ _ _ _ _ _ _ _ _ _ _ _ _ _ _ _ _ _ _ _ _
end Go.Proofs.Ytbkmnboicihchaa
namespace Go.Proofs.Ytbkmnboicihchaa
set_option maxRecDepth 100000
set_option linter.unusedSimpArgs false
set_option linter.unusedVariables false
open Go.RowKit Go.ChangeShapes Go.WideShapes Go.ChangeAt
theorem open_two {H : Type} {enc : TypeId × Value → H} {w : World} {base : Nat} {v : Value} {d : DataW H} {p : List MemPlace} (hv : Value.okWide Try.prog w .any base 77 v) (h : DataW.Trod enc Try.prog w 0 (fun _ => true) true 77 v d p) :
   ∃ x0 x1 : Cl,v = .agg (x0.vals ++ x1.vals).toArray ∧ x0.okk ∧ x1.okk:=by
 have hu : Try.prog.underlying 77 = some (.array 2 33):=by kernel_rfl
 obtain ⟨cs,rfl,hsz⟩ : ∃ cs,v = .agg cs ∧ cs.size = Try.prog.cellsOf 77:=by
   unfold Value.okWide at hv
   rw [hu] at hv
   obtain ⟨cs,h1,h2,-⟩:=hv
   exact ⟨cs,h1,h2⟩
 obtain ⟨fuel,hf⟩:=h
 obtain ⟨xs,m,rfl,-,hl,hxs,hg⟩:=DataW.trod_array hu hf
 have hc : Try.prog.cellsOf 77 = 8:=by kernel_rfl
 have h4 : Try.prog.cellsOf 33 = 4:=by kernel_rfl
 rw [hc] at hsz
 have key : ∀ i,i < 2 → ∃ a : Ad,(cs.toList.drop (i * 4)).take 4 = a.vals ∧ a.ok:=fun i hi => by
   have h2:=hg i hi
   rw [h4,List.getElem?_eq_getElem (by omega : i < xs.length)] at h2
   exact open_ad h2
 obtain ⟨a,ha,k0⟩:=key 0 (by omega)
 obtain ⟨b,hb,k1⟩:=key 1 (by omega)
 refine ⟨⟨a.row,a.col⟩,⟨b.row,b.col⟩,?_,⟨⟨k0.1,k0.2.1⟩,⟨k0.2.2.1,k0.2.2.2⟩⟩,⟨⟨k1.1,k1.2.1⟩,⟨k1.2.2.1,k1.2.2.2⟩⟩⟩
 have hcs : cs.toList = a.vals ++ b.vals:=by
   rw [← ha,← hb]
   exact list_take2 (by simpa using hsz)
 have : cs = (a.vals ++ b.vals).toArray:=by rw [← hcs,Array.toArray_toList]
 rw [this]
 rfl
end Go.Proofs.Ytbkmnboicihchaa
