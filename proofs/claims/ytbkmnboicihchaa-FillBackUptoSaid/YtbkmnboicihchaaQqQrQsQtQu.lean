/- FillBack's region 18: the faults of three trees. A tree that goes its way is no greater. FillBack's region 20: the two comparisons. FillBack's regions 6 .. 15: the places of the three cells. FillBack from region 4 on,and whole. -/
import Derived.Test.YtbkmnboicihchaaQmHfQoQnQp
import Derived.Test.YtbkmnboicihchaaStSqXaNmVr
import Derived.Test.YtbkmnboicihchaaFlXtQiIq0Is
import Derived.Test.YtbkmnboicihchaaQlItQxOg0Xk0Ga
namespace Go.Proofs.Ytbkmnboicihchaa
set_option maxRecDepth 100000
set_option maxHeartbeats 8000000
set_option linter.unusedSimpArgs false
set_option linter.unusedVariables false
open Go Go.RowKit Go.Shelf Go.Maps
theorem gtr_run {o : Oper} {ρ : Operand → Value} {w : World} (x y : Operand) (ho : o.op = .binOp .gtr 3 x y 3) (a b : Int) (hx : ρ x = .int .i64 a) (hy : ρ y = .int .i64 b) (v : Bool) (hv : decide (b < a) = v) : (execOp ρ o).run Try.prog w = .ok (.value (.bool v)) w:=by
 unfold execOp
 simp only [ho,hx,hy]
 subst hv
 simp [go_sem]
theorem fb_18_20 : fromRegion 20 (fromRegion 18 backC) = fromRegion 20 backC:=by kernel_rfl
theorem fb18 (u0 u1 u2 u5 u6 u8 u9 u10 u11 u12 u13 u14 u15 u16 u19 u20 u21 u22 u23 u24 u25 u26 u27 u28 u29 u30 u31 u32 u33 u34 u35 u36 u37 u38 u39 u40 u41 u42 u43 u44 u45 u46 u47 u48 u49 u50 u51 u52 u53 u54 u55 u56 u57 u58 u59 u60 u61 u62 u63 u64 u65 u66 u67 u68 u69 u70 u71 u72 u73 u74 u75 u76 u77 u78 u79 u80 u81 u82 u83 u84 u85 u86 u87 u88 u89 u90 u91 u92 u93 u94 u95 u96 u97 u98 u99 u100 u101 u102 u103 u104 u105 u106 u107 u108 u109 u110 u111 u112 u113 u114 u115 u116 u117 u118 u119 u120 u121 u122 u123 u124 u125 u126 u127 u128 u129 u130 u131 u132 u133 u134 u135 u136 u137 u138 u139 u140 u141 : Value) (w : World) (R0 : Ending → World → Prop) (g3 g4 g17 g18 s : Nat) (t r v : Tr) (A A1 A2 : Option Addr) (c c1 c2 : Nat)
   (hn : NodeIn w g3 t A c) (hn1 : NodeIn w g17 r A1 c1) (hn2 : NodeIn w g18 v A2 c2) (hd : t.d.ok ∧ r.d.ok ∧ v.d.ok) (hz : t.size ≤ 1048576 ∧ r.size ≤ 1048576 ∧ v.size ≤ 1048576)
   (hret : ∀ w',Below w.heap.size w w' → R0 (.returned (.bool true)) w')
   (hk : litN r ≤ litN t → litN v ≤ litN t → ∀ (w' : World) (u0 u1 u2 u5 u6 u8 u9 u10 u11 u12 u13 u14 u15 u16 u19 u20 u21 u22 u23 u24 u25 u26 u27 u28 u29 u30 u31 u32 u33 u34 u35 u36 u37 u38 u39 u40 u41 u42 u43 u44 u45 u46 u47 u48 u49 u50 u51 u52 u53 u54 u55 u56 u57 u58 u59 u60 u61 u62 u63 u64 u65 u66 u67 u68 u69 u70 u71 u72 u73 u74 u75 u76 u77 u78 u79 u80 u81 u82 u83 u84 u85 u86 u87 u88 u89 u90 u91 u92 u93 u94 u95 u96 u97 u98 u99 u100 u101 u102 u103 u104 u105 u106 u107 u108 u109 u110 u111 u112 u113 u114 u115 u116 u117 u118 u119 u120 u121 u122 u123 u124 u125 u126 u127 u128 u129 u130 u131 u132 u133 u134 u135 u136 u137 u138 u139 u140 u141 : Value),Below w.heap.size w w' → (fromRegion 20 backC).wp Try.prog (bodyPost Try.prog Try.f4 R0) ⟨#[u0,u1,u2,.pointer (some ⟨g3,0,none⟩),.pointer (some ⟨g4,0,none⟩),u5,u6,.pointer (some ⟨s,0,none⟩),u8,u9,u10,u11,u12,u13,u14,u15,u16,.pointer (some ⟨g17,0,none⟩),.pointer (some ⟨g18,0,none⟩),u19,u20,u21,u22,u23,u24,u25,u26,u27,u28,u29,u30,u31,u32,u33,u34,u35,u36,u37,u38,u39,u40,u41,u42,u43,u44,u45,u46,u47,u48,u49,u50,u51,u52,u53,u54,u55,u56,u57,u58,u59,u60,u61,u62,u63,u64,u65,u66,u67,u68,u69,u70,u71,u72,u73,u74,u75,u76,u77,u78,u79,u80,u81,u82,u83,u84,u85,u86,u87,u88,u89,u90,u91,u92,u93,u94,u95,u96,u97,u98,u99,u100,u101,u102,u103,u104,u105,u106,u107,u108,u109,u110,u111,u112,u113,u114,u115,u116,u117,u118,u119,u120,u121,u122,u123,u124,u125,u126,u127,u128,u129,u130,u131,u132,u133,u134,u135,u136,u137,u138,u139,u140,u141],[]⟩ w') :
   (fromRegion 18 backC).wp Try.prog (bodyPost Try.prog Try.f4 R0) ⟨#[u0,u1,u2,.pointer (some ⟨g3,0,none⟩),.pointer (some ⟨g4,0,none⟩),u5,u6,.pointer (some ⟨s,0,none⟩),u8,u9,u10,u11,u12,u13,u14,u15,u16,.pointer (some ⟨g17,0,none⟩),.pointer (some ⟨g18,0,none⟩),u19,u20,u21,u22,u23,u24,u25,u26,u27,u28,u29,u30,u31,u32,u33,u34,u35,u36,u37,u38,u39,u40,u41,u42,u43,u44,u45,u46,u47,u48,u49,u50,u51,u52,u53,u54,u55,u56,u57,u58,u59,u60,u61,u62,u63,u64,u65,u66,u67,u68,u69,u70,u71,u72,u73,u74,u75,u76,u77,u78,u79,u80,u81,u82,u83,u84,u85,u86,u87,u88,u89,u90,u91,u92,u93,u94,u95,u96,u97,u98,u99,u100,u101,u102,u103,u104,u105,u106,u107,u108,u109,u110,u111,u112,u113,u114,u115,u116,u117,u118,u119,u120,u121,u122,u123,u124,u125,u126,u127,u128,u129,u130,u131,u132,u133,u134,u135,u136,u137,u138,u139,u140,u141],[]⟩ w:=by
 dsimp only
 have e1:=cut_from 20 (fromRegion 18 backC)
 rw [fb_18_20] at e1
 obtain ⟨CO,hCO⟩ : ∃ CO,CO = fromRegion 20 backC:=⟨_,rfl⟩
 rw [← hCO] at e1 hk
 clear hCO
 dsimp only at hk
 obtain ⟨a,ha⟩ : ∃ a,a = litN t:=⟨_,rfl⟩
 obtain ⟨b,hb⟩ : ∃ a,a = litN r:=⟨_,rfl⟩
 obtain ⟨e,he⟩ : ∃ a,a = litN v:=⟨_,rfl⟩
 rw [← ha,← hb,← he] at hk
 obtain ⟨n0,hn0⟩ : ∃ l,l = t.d.head ++ [Value.slice A t.l.length c]:=⟨_,rfl⟩
 obtain ⟨n1,hn1'⟩ : ∃ l,l = r.d.head ++ [Value.slice A1 r.l.length c1]:=⟨_,rfl⟩
 obtain ⟨n2,hn2'⟩ : ∃ l,l = v.d.head ++ [Value.slice A2 v.l.length c2]:=⟨_,rfl⟩
 have HTR : ∀ wz,Below w.heap.size w wz → wz.rangeAt g3 0 n0 ∧ wz.rangeAt g17 0 n1 ∧ wz.rangeAt g18 0 n2:=fun wz hS => by
   rw [hn0,hn1',hn2']
   exact ⟨node_range (hn.below hS),node_range (hn1.below hS),node_range (hn2.below hS)⟩
 have HF0 : ∀ wz,Below w.heap.size w wz → Calls Try.prog 17 #[.agg n0.toArray] wz (fun e w' => e = .returned (.int .i64 (a : Nat)) ∧ Below wz.heap.size wz w'):=fun wz hS => by
   rw [hn0,ha]; exact faults_c t wz wz.heap.size A c hd.1 (hn.below hS).2 (Nat.le_refl _) hz.1
 have HF1 : ∀ wz,Below w.heap.size w wz → Calls Try.prog 17 #[.agg n1.toArray] wz (fun e w' => e = .returned (.int .i64 (b : Nat)) ∧ Below wz.heap.size wz w'):=fun wz hS => by
   rw [hn1',hb]; exact faults_c r wz wz.heap.size A1 c1 hd.2.1 (hn1.below hS).2 (Nat.le_refl _) hz.2.1
 have HF2 : ∀ wz,Below w.heap.size w wz → Calls Try.prog 17 #[.agg n2.toArray] wz (fun e' w' => e' = .returned (.int .i64 (e : Nat)) ∧ Below wz.heap.size wz w'):=fun wz hS => by
   rw [hn2',he]; exact faults_c v wz wz.heap.size A2 c2 hd.2.2 (hn2.below hS).2 (Nat.le_refl _) hz.2.2
 have hl0 : (Try.prog.info? 44).map (·.size) = some n0.length:=by rw [hn0]; exact infN
 have hl1 : (Try.prog.info? 44).map (·.size) = some n1.length:=by rw [hn1']; exact infN
 have hl2 : (Try.prog.info? 44).map (·.size) = some n2.length:=by rw [hn2']; exact infN
 have HK:=Lib.hid hk
 have HRET:=Lib.hid hret
 have HTR:=Lib.hid HTR
 have HF0:=Lib.hid HF0
 have HF1:=Lib.hid HF1
 have HF2:=Lib.hid HF2
 have HL0:=Lib.hid hl0
 have HL1:=Lib.hid hl1
 have HL2:=Lib.hid hl2
 have hab : decide ((a : Int) < (b : Int)) = true ∨ (decide ((a : Int) < (b : Int)) = false ∧ b ≤ a):=by
   by_cases h : (a : Int) < b
   · exact .inl (decide_eq_true h)
   · exact .inr ⟨decide_eq_false h,by clear hk HK; omega⟩
 have hae : decide ((a : Int) < (e : Int)) = true ∨ (decide ((a : Int) < (e : Int)) = false ∧ e ≤ a):=by
   by_cases h : (a : Int) < e
   · exact .inl (decide_eq_true h)
   · exact .inr ⟨decide_eq_false h,by clear hk HK; omega⟩
 clear hn hn1 hn2 hd hz hret hk ha hb he hn0 hn1' hn2' hl0 hl1 hl2
 rw [← e1]
 clear e1
 conv => arg 2; whnf; repeat (arg 2; whnf)
 go_upto_region 18 with (fail)
 refine wp_region_held_drew (S:=fun wz => Below w.heap.size w wz) (by kernel_rfl) (Below.refl _ w).drew (fun hHeld => ?_)
 refine wpAnyH_take (i:=0) (v:=.agg n1.toArray) rfl (by kernel_rfl) (by kernel_rfl) (by kernel_rfl) (fun _ _ _ h => h) (yieldsIf_load_mid (by kernel_rfl) 44 _ rfl g17 0 rfl n1 _ (fun _ hS => (HTR.out _ hS).2.1) undN rfl HL1.out) hHeld ?_
 try simp only [sX]
 refine wpAnyH_take (i:=2) (v:=.agg n0.toArray) rfl (by kernel_rfl) (by kernel_rfl) (by kernel_rfl) (fun _ _ _ h => h) (yieldsIf_load_mid (by kernel_rfl) 44 _ rfl g3 0 rfl n0 _ (fun _ hS => (HTR.out _ hS).1) undN rfl HL0.out) hHeld ?_
 try simp only [sX]
 obtain ⟨wa,hwa⟩ : ∃ wa,wa = w.drew:=⟨_,rfl⟩
 rw [← hwa] at hHeld ⊢
 clear hwa
 rcases hab with hab | hab
 · skip
   refine wpAnyH_ready (rs:=[1]) (by kernel_rfl) (by simp) ?_
   refine AllReadyH.cons rfl (fun K hK => ?_) AllReadyH.nil
   go_simp
   refine (HF1.out wa hHeld).mono ?_
   rintro e9 wb ⟨rfl,hbn⟩
   try go_simp
   refine hK.out _ _ (hHeld.trans (hbn.mono hHeld.size)) (fun hHeld1 => ?_)
   clear hK K hHeld hbn
   have hHeld:=hHeld1
   clear hHeld1
   try simp only [sX]
   refine wpAnyH_ready (rs:=[3]) (by kernel_rfl) (by simp) ?_
   refine AllReadyH.cons rfl (fun K hK => ?_) AllReadyH.nil
   go_simp
   refine (HF0.out wb hHeld).mono ?_
   rintro e9 wc ⟨rfl,hbn⟩
   try go_simp
   refine hK.out _ _ (hHeld.trans (hbn.mono hHeld.size)) (fun hHeld1 => ?_)
   clear hK K hHeld hbn
   have hHeld:=hHeld1
   clear hHeld1
   try simp only [sX]
   refine wpAnyH_take (i:=4) (v:=.bool true) rfl (by kernel_rfl) (by kernel_rfl) (by kernel_rfl) (fun _ _ _ h => h) (Or.inl ⟨by kernel_rfl,fun _ hS => gtr_run _ _ rfl (b : Int) (a : Int) rfl rfl true hab⟩) hHeld ?_
   try simp only [sX]
   refine wpAnyH_take (i:=5) (v:=.bool true) rfl (by kernel_rfl) (by kernel_rfl) (by kernel_rfl) (fun _ _ _ h => h) (Or.inl ⟨by kernel_rfl,fun _ hS => by kernel_rfl⟩) hHeld ?_
   try simp only [sX]
   refine wpAnyH_take (i:=6) (v:=undef) rfl (by kernel_rfl) (by kernel_rfl) (by kernel_rfl) (fun _ _ _ h => h) (Or.inr ⟨by kernel_rfl,rfl⟩) hHeld ?_
   try simp only [sX]
   refine wpAnyH_take (i:=7) (v:=undef) rfl (by kernel_rfl) (by kernel_rfl) (by kernel_rfl) (fun _ _ _ h => h) (Or.inr ⟨by kernel_rfl,rfl⟩) hHeld ?_
   try simp only [sX]
   refine wpAnyH_take (i:=8) (v:=undef) rfl (by kernel_rfl) (by kernel_rfl) (by kernel_rfl) (fun _ _ _ h => h) (Or.inr ⟨by kernel_rfl,rfl⟩) hHeld ?_
   try simp only [sX]
   refine wpAnyH_take (i:=9) (v:=undef) rfl (by kernel_rfl) (by kernel_rfl) (by kernel_rfl) (fun _ _ _ h => h) (Or.inr ⟨by kernel_rfl,rfl⟩) hHeld ?_
   try simp only [sX]
   refine wpAnyH_take (i:=10) (v:=undef) rfl (by kernel_rfl) (by kernel_rfl) (by kernel_rfl) (fun _ _ _ h => h) (Or.inr ⟨by kernel_rfl,rfl⟩) hHeld ?_
   try simp only [sX]
   refine wpAnyH_take (i:=11) (v:=.bool true) rfl (by kernel_rfl) (by kernel_rfl) (by kernel_rfl) (fun _ _ _ h => h) (Or.inl ⟨by kernel_rfl,fun _ hS => by kernel_rfl⟩) hHeld ?_
   try simp only [sX]
   have HE:=Lib.hid hHeld
   refine wpAnyH_done (by kernel_rfl) ?_ _
   clear hHeld
   go_wp2_with fail
   exact HRET.out _ HE.out
 · skip
   refine wpAnyH_ready (rs:=[1]) (by kernel_rfl) (by simp) ?_
   refine AllReadyH.cons rfl (fun K hK => ?_) AllReadyH.nil
   go_simp
   refine (HF1.out wa hHeld).mono ?_
   rintro e9 wb ⟨rfl,hbn⟩
   try go_simp
   refine hK.out _ _ (hHeld.trans (hbn.mono hHeld.size)) (fun hHeld1 => ?_)
   clear hK K hHeld hbn
   have hHeld:=hHeld1
   clear hHeld1
   try simp only [sX]
   refine wpAnyH_ready (rs:=[3]) (by kernel_rfl) (by simp) ?_
   refine AllReadyH.cons rfl (fun K hK => ?_) AllReadyH.nil
   go_simp
   refine (HF0.out wb hHeld).mono ?_
   rintro e9 wc ⟨rfl,hbn⟩
   try go_simp
   refine hK.out _ _ (hHeld.trans (hbn.mono hHeld.size)) (fun hHeld1 => ?_)
   clear hK K hHeld hbn
   have hHeld:=hHeld1
   clear hHeld1
   try simp only [sX]
   refine wpAnyH_take (i:=4) (v:=.bool false) rfl (by kernel_rfl) (by kernel_rfl) (by kernel_rfl) (fun _ _ _ h => h) (Or.inl ⟨by kernel_rfl,fun _ hS => gtr_run _ _ rfl (b : Int) (a : Int) rfl rfl false hab.1⟩) hHeld ?_
   try simp only [sX]
   refine wpAnyH_take (i:=5) (v:=.bool false) rfl (by kernel_rfl) (by kernel_rfl) (by kernel_rfl) (fun _ _ _ h => h) (Or.inl ⟨by kernel_rfl,fun _ hS => by kernel_rfl⟩) hHeld ?_
   try simp only [sX]
   refine wpAnyH_take (i:=6) (v:=.agg n2.toArray) rfl (by kernel_rfl) (by kernel_rfl) (by kernel_rfl) (fun _ _ _ h => h) (yieldsIf_load_mid (by kernel_rfl) 44 _ rfl g18 0 rfl n2 _ (fun _ hS => (HTR.out _ hS).2.2) undN rfl HL2.out) hHeld ?_
   try simp only [sX]
   refine wpAnyH_take (i:=8) (v:=.agg n0.toArray) rfl (by kernel_rfl) (by kernel_rfl) (by kernel_rfl) (fun _ _ _ h => h) (yieldsIf_load_mid (by kernel_rfl) 44 _ rfl g3 0 rfl n0 _ (fun _ hS => (HTR.out _ hS).1) undN rfl HL0.out) hHeld ?_
   try simp only [sX]
   rcases hae with hae | hae
   · skip
     refine wpAnyH_ready (rs:=[7]) (by kernel_rfl) (by simp) ?_
     refine AllReadyH.cons rfl (fun K hK => ?_) AllReadyH.nil
     go_simp
     refine (HF2.out wc hHeld).mono ?_
     rintro e9 wd ⟨rfl,hbn⟩
     try go_simp
     refine hK.out _ _ (hHeld.trans (hbn.mono hHeld.size)) (fun hHeld1 => ?_)
     clear hK K hHeld hbn
     have hHeld:=hHeld1
     clear hHeld1
     try simp only [sX]
     refine wpAnyH_ready (rs:=[9]) (by kernel_rfl) (by simp) ?_
     refine AllReadyH.cons rfl (fun K hK => ?_) AllReadyH.nil
     go_simp
     refine (HF0.out wd hHeld).mono ?_
     rintro e9 we ⟨rfl,hbn⟩
     try go_simp
     refine hK.out _ _ (hHeld.trans (hbn.mono hHeld.size)) (fun hHeld1 => ?_)
     clear hK K hHeld hbn
     have hHeld:=hHeld1
     clear hHeld1
     try simp only [sX]
     refine wpAnyH_take (i:=10) (v:=.bool true) rfl (by kernel_rfl) (by kernel_rfl) (by kernel_rfl) (fun _ _ _ h => h) (Or.inl ⟨by kernel_rfl,fun _ hS => gtr_run _ _ rfl (e : Int) (a : Int) rfl rfl true hae⟩) hHeld ?_
     try simp only [sX]
     refine wpAnyH_take (i:=11) (v:=.bool true) rfl (by kernel_rfl) (by kernel_rfl) (by kernel_rfl) (fun _ _ _ h => h) (Or.inl ⟨by kernel_rfl,fun _ hS => by kernel_rfl⟩) hHeld ?_
     try simp only [sX]
     have HE:=Lib.hid hHeld
     refine wpAnyH_done (by kernel_rfl) ?_ _
     clear hHeld
     go_wp2_with fail
     exact HRET.out _ HE.out
   · skip
     refine wpAnyH_ready (rs:=[7]) (by kernel_rfl) (by simp) ?_
     refine AllReadyH.cons rfl (fun K hK => ?_) AllReadyH.nil
     go_simp
     refine (HF2.out wc hHeld).mono ?_
     rintro e9 wd ⟨rfl,hbn⟩
     try go_simp
     refine hK.out _ _ (hHeld.trans (hbn.mono hHeld.size)) (fun hHeld1 => ?_)
     clear hK K hHeld hbn
     have hHeld:=hHeld1
     clear hHeld1
     try simp only [sX]
     refine wpAnyH_ready (rs:=[9]) (by kernel_rfl) (by simp) ?_
     refine AllReadyH.cons rfl (fun K hK => ?_) AllReadyH.nil
     go_simp
     refine (HF0.out wd hHeld).mono ?_
     rintro e9 we ⟨rfl,hbn⟩
     try go_simp
     refine hK.out _ _ (hHeld.trans (hbn.mono hHeld.size)) (fun hHeld1 => ?_)
     clear hK K hHeld hbn
     have hHeld:=hHeld1
     clear hHeld1
     try simp only [sX]
     refine wpAnyH_take (i:=10) (v:=.bool false) rfl (by kernel_rfl) (by kernel_rfl) (by kernel_rfl) (fun _ _ _ h => h) (Or.inl ⟨by kernel_rfl,fun _ hS => gtr_run _ _ rfl (e : Int) (a : Int) rfl rfl false hae.1⟩) hHeld ?_
     try simp only [sX]
     refine wpAnyH_take (i:=11) (v:=.bool false) rfl (by kernel_rfl) (by kernel_rfl) (by kernel_rfl) (fun _ _ _ h => h) (Or.inl ⟨by kernel_rfl,fun _ hS => by kernel_rfl⟩) hHeld ?_
     try simp only [sX]
     have HE:=Lib.hid hHeld
     refine wpAnyH_done (by kernel_rfl) ?_ _
     clear hHeld
     go_wp2_with fail
     exact HK.out hab.2 hae.2 _ _ _ _ _ _ _ _ _ _ _ _ _ _ _ _ _ _ _ _ _ _ _ _ _ _ _ _ _ _ _ _ _ _ _ _ _ _ _ _ _ _ _ _ _ _ _ _ _ _ _ _ _ _ _ _ _ _ _ _ _ _ _ _ _ _ _ _ _ _ _ _ _ _ _ _ _ _ _ _ _ _ _ _ _ _ _ _ _ _ _ _ _ _ _ _ _ _ _ _ _ _ _ _ _ _ _ _ _ _ _ _ _ _ _ _ _ _ _ _ _ _ _ _ _ _ _ _ _ _ _ _ _ _ _ _ _ _ HE.out
end Go.Proofs.Ytbkmnboicihchaa
namespace Go.Proofs.Ytbkmnboicihchaa
open Go Go.RowKit Go.Shelf Go.Maps
theorem gone_size (w : Wy) : ∀ t : Tr,(goneT w t).size ≤ t.size:=by
 intro t
 induction t using Tr.ind with | _ d l ih => ?_
 rw [goneT_mk]
 have h2 : ∀ l' : List Tr,(∀ x ∈ l',(goneT w x).size ≤ x.size) → Tr.sizes (l'.map (goneT w)) ≤ Tr.sizes l':=by
   intro l'
   induction l' with
   | nil => intro _; simp
   | cons x l' ih' =>
     intro hx
     rw [List.map_cons,Tr.sizes,Tr.sizes]
     have h1:=hx x (by simp)
     have h2:=ih' (fun y hy => hx y (by simp [hy]))
     omega
 split
 · simp only [Tr.size,Tr.sizes]; omega
 · have:=h2 l ih
   simp only [Tr.size]; omega
theorem shift_size (rows cols : List Ik) (x y : Cl) (t : Tr) : (shiftT rows cols x y t).size ≤ t.size:=by
 unfold shiftT
 split
 · exact gone_size _ t
 · exact Nat.le_refl _
end Go.Proofs.Ytbkmnboicihchaa
namespace Go.Proofs.Ytbkmnboicihchaa
set_option maxRecDepth 100000
set_option maxHeartbeats 8000000
set_option linter.unusedSimpArgs false
set_option linter.unusedVariables false
open Go Go.RowKit Go.Shelf Go.Maps
theorem fb20 (u0 u1 u2 u5 u6 u8 u9 u10 u11 u12 u13 u14 u15 u16 u19 u20 u21 u22 u23 u24 u25 u26 u27 u28 u29 u30 u31 u32 u33 u34 u35 u36 u37 u38 u39 u40 u41 u42 u43 u44 u45 u46 u47 u48 u49 u50 u51 u52 u53 u54 u55 u56 u57 u58 u59 u60 u61 u62 u63 u64 u65 u66 u67 u68 u69 u70 u71 u72 u73 u74 u75 u76 u77 u78 u79 u80 u81 u82 u83 u84 u85 u86 u87 u88 u89 u90 u91 u92 u93 u94 u95 u96 u97 u98 u99 u100 u101 u102 u103 u104 u105 u106 u107 u108 u109 u110 u111 u112 u113 u114 u115 u116 u117 u118 u119 u120 u121 u122 u123 u124 u125 u126 u127 u128 u129 u130 u131 u132 u133 u134 u135 u136 u137 u138 u139 u140 u141 : Value) (w : World) (R0 : Ending → World → Prop) (g3 g4 g17 g18 s p q : Nat) (z u : Value) (x0 x1 x2 : Cl) (L M : IL) (t r v : Tr) (A A1 A2 : Option Addr) (c c1 c2 : Nat)
   (hB : BkS w g4 s p q z u x0 x1 x2 L M) (hL : L.Ok) (hM : M.Ok) (hpq : p = q → L = M) (hn : NodeIn w g3 t A c) (hn1 : NodeIn w g17 r A1 c1) (hn2 : NodeIn w g18 v A2 c2) (hd : t.d.ok ∧ r.d.ok ∧ v.d.ok) (hz : t.size ≤ 1048576 ∧ r.size ≤ 1048576 ∧ v.size ≤ 1048576) (hx : (x0.row.ok ∧ x0.col.ok) ∧ (x1.row.ok ∧ x1.col.ok) ∧ (x2.row.ok ∧ x2.col.ok))
   (h1 : shiftT L.alive M.alive x1 x0 r = t) (h2 : shiftT L.alive M.alive x0 x2 t = v)
   (hret : ∀ w',Below w.heap.size w w' → R0 (.returned (.bool true)) w') :
   (fromRegion 20 backC).wp Try.prog (bodyPost Try.prog Try.f4 R0) ⟨#[u0,u1,u2,.pointer (some ⟨g3,0,none⟩),.pointer (some ⟨g4,0,none⟩),u5,u6,.pointer (some ⟨s,0,none⟩),u8,u9,u10,u11,u12,u13,u14,u15,u16,.pointer (some ⟨g17,0,none⟩),.pointer (some ⟨g18,0,none⟩),u19,u20,u21,u22,u23,u24,u25,u26,u27,u28,u29,u30,u31,u32,u33,u34,u35,u36,u37,u38,u39,u40,u41,u42,u43,u44,u45,u46,u47,u48,u49,u50,u51,u52,u53,u54,u55,u56,u57,u58,u59,u60,u61,u62,u63,u64,u65,u66,u67,u68,u69,u70,u71,u72,u73,u74,u75,u76,u77,u78,u79,u80,u81,u82,u83,u84,u85,u86,u87,u88,u89,u90,u91,u92,u93,u94,u95,u96,u97,u98,u99,u100,u101,u102,u103,u104,u105,u106,u107,u108,u109,u110,u111,u112,u113,u114,u115,u116,u117,u118,u119,u120,u121,u122,u123,u124,u125,u126,u127,u128,u129,u130,u131,u132,u133,u134,u135,u136,u137,u138,u139,u140,u141],[]⟩ w:=by
 dsimp only
 obtain ⟨n0,hn0⟩ : ∃ l,l = t.d.head ++ [Value.slice A t.l.length c]:=⟨_,rfl⟩
 obtain ⟨n1,hn1'⟩ : ∃ l,l = r.d.head ++ [Value.slice A1 r.l.length c1]:=⟨_,rfl⟩
 obtain ⟨n2,hn2'⟩ : ∃ l,l = v.d.head ++ [Value.slice A2 v.l.length c2]:=⟨_,rfl⟩
 obtain ⟨X0,hX0⟩ : ∃ l,l = x0.vals:=⟨_,rfl⟩
 obtain ⟨X1,hX1⟩ : ∃ l,l = x1.vals:=⟨_,rfl⟩
 obtain ⟨X2,hX2⟩ : ∃ l,l = x2.vals:=⟨_,rfl⟩
 have HTR : ∀ wz,Below w.heap.size w wz → wz.rangeAt g3 0 n0 ∧ wz.rangeAt g17 0 n1 ∧ wz.rangeAt g18 0 n2 ∧ wz.rangeAt g4 0 X0 ∧ wz.rangeAt g4 4 X1 ∧ wz.rangeAt g4 8 X2 ∧ wz.cell? ⟨s,0,none⟩ = some (.pointer (some ⟨p,0,none⟩)) ∧ wz.cell? ⟨s,1,none⟩ = some (.pointer (some ⟨q,0,none⟩)):=fun wz hS => by
   rw [hn0,hn1',hn2',hX0,hX1,hX2]
   have hB':=hB.below hS
   exact ⟨node_range (hn.below hS),node_range (hn1.below hS),node_range (hn2.below hS),hB'.cells.1,hB'.cells.2.1,hB'.cells.2.2,cell_of_row _ _ 0 _ _ _ hB'.own,cell_of_row _ _ 1 _ _ _ hB'.own⟩
 have HS1 : ∀ wz,Below w.heap.size w wz → Calls Try.prog 16 #[.agg n1.toArray,.agg X1.toArray,.agg X0.toArray,.pointer (some ⟨p,0,none⟩),.pointer (some ⟨q,0,none⟩)] wz (ShiftPostR p q L M wz t):=fun wz hS => by
   rw [hn1',hX1,hX0,← h1]
   have hB':=hB.below hS
   exact shiftR_c hB'.ax hB'.ay hpq hL hM r A1 c1 hd.2.1 (hn1.below hS).2 hz.2.1 x1 x0 hx.2.1 hx.1
 have HS2 : ∀ wz,Below w.heap.size w wz → Calls Try.prog 16 #[.agg n0.toArray,.agg X0.toArray,.agg X2.toArray,.pointer (some ⟨p,0,none⟩),.pointer (some ⟨q,0,none⟩)] wz (ShiftPostR p q L M wz v):=fun wz hS => by
   rw [hn0,hX0,hX2,← h2]
   have hB':=hB.below hS
   exact shiftR_c hB'.ax hB'.ay hpq hL hM t A c hd.1 (hn.below hS).2 hz.1 x0 x2 hx.1 hx.2.2
 have HM1 : ∀ wz N5 A5 c5 (G : Nat → Nat → Prop),Below w.heap.size w wz → N5 = nodeA t.d A5 t.l.length c5 → (∀ b o,G b o → b < wz.heap.size) → SlG wz G A5 c5 t.l → Calls Try.prog 18 #[.agg N5,.agg n0.toArray] wz (fun e w' => e = .returned (.bool true) ∧ Below wz.heap.size wz w'):=fun wz N5 A5 c5 G hS hN hG hsl => by
   rw [hN,hn0]
   have h:=rsame_c t t wz wz.heap.size A5 A c5 c hd.1 (hsl.at_ hG) hd.1 (hn.below hS).2 (Nat.le_refl _)
   rw [(sameB_eq t t).2 rfl] at h
   exact h
 have HM2 : ∀ wz N5 A5 c5 (G : Nat → Nat → Prop),Below w.heap.size w wz → N5 = nodeA v.d A5 v.l.length c5 → (∀ b o,G b o → b < wz.heap.size) → SlG wz G A5 c5 v.l → Calls Try.prog 18 #[.agg n2.toArray,.agg N5] wz (fun e w' => e = .returned (.bool true) ∧ Below wz.heap.size wz w'):=fun wz N5 A5 c5 G hS hN hG hsl => by
   rw [hN,hn2']
   have h:=rsame_c v v wz wz.heap.size A2 A5 c2 c5 hd.2.2 (hn2.below hS).2 hd.2.2 (hsl.at_ hG) (Nat.le_refl _)
   rw [(sameB_eq v v).2 rfl] at h
   exact h
 have hl0 : (Try.prog.info? 44).map (·.size) = some n0.length:=by rw [hn0]; exact infN
 have hl1 : (Try.prog.info? 44).map (·.size) = some n1.length:=by rw [hn1']; exact infN
 have hl2 : (Try.prog.info? 44).map (·.size) = some n2.length:=by rw [hn2']; exact infN
 have hx0 : (Try.prog.info? 33).map (·.size) = some X0.length:=by rw [hX0]; exact infC4 _ _ _ _
 have hx1 : (Try.prog.info? 33).map (·.size) = some X1.length:=by rw [hX1]; exact infC4 _ _ _ _
 have hx2 : (Try.prog.info? 33).map (·.size) = some X2.length:=by rw [hX2]; exact infC4 _ _ _ _
 have HRET:=Lib.hid hret
 have HTR:=Lib.hid HTR
 have HS1:=Lib.hid HS1
 have HS2:=Lib.hid HS2
 have HM1:=Lib.hid HM1
 have HM2:=Lib.hid HM2
 have HL0:=Lib.hid hl0
 have HL1:=Lib.hid hl1
 have HL2:=Lib.hid hl2
 have HX0:=Lib.hid hx0
 have HX1:=Lib.hid hx1
 have HX2:=Lib.hid hx2
 have HC4:=Lib.hid undC4
 clear hB hL hM hpq hn hn1 hn2 hd hz hx h1 h2 hret hn0 hn1' hn2' hX0 hX1 hX2 hl0 hl1 hl2 hx0 hx1 hx2
 conv => arg 2; whnf; repeat (arg 2; whnf)
 go_upto_region 20 with (fail)
 refine wp_region_held_drew (S:=fun wz => Below w.heap.size w wz) (by kernel_rfl) (Below.refl _ w).drew (fun hHeld => ?_)
 refine wpAnyH_take (i:=0) (v:=.agg n1.toArray) rfl (by kernel_rfl) (by kernel_rfl) (by kernel_rfl) (fun _ _ _ h => h) (yieldsIf_load_mid (by kernel_rfl) 44 _ rfl g17 0 rfl n1 _ (fun _ hS => (HTR.out _ hS).2.1) undN rfl HL1.out) hHeld ?_
 try simp only [sX]
 refine wpAnyH_take (i:=1) (v:=.pointer (some ⟨g4,4,none⟩)) rfl (by kernel_rfl) (by kernel_rfl) (by kernel_rfl) (fun _ _ _ h => h) (Or.inl ⟨by kernel_rfl,fun _ hS => by kernel_rfl⟩) hHeld ?_
 try simp only [sX]
 refine wpAnyH_take (i:=2) (v:=.agg X1.toArray) rfl (by kernel_rfl) (by kernel_rfl) (by kernel_rfl) (fun _ _ _ h => h) (yieldsIf_load_mid (by kernel_rfl) 33 _ rfl g4 4 rfl X1 _ (fun _ hS => (HTR.out _ hS).2.2.2.2.1) HC4.out rfl HX1.out) hHeld ?_
 try simp only [sX]
 refine wpAnyH_take (i:=3) (v:=.pointer (some ⟨g4,0,none⟩)) rfl (by kernel_rfl) (by kernel_rfl) (by kernel_rfl) (fun _ _ _ h => h) (Or.inl ⟨by kernel_rfl,fun _ hS => by kernel_rfl⟩) hHeld ?_
 try simp only [sX]
 refine wpAnyH_take (i:=4) (v:=.agg X0.toArray) rfl (by kernel_rfl) (by kernel_rfl) (by kernel_rfl) (fun _ _ _ h => h) (yieldsIf_load_mid (by kernel_rfl) 33 _ rfl g4 0 rfl X0 _ (fun _ hS => (HTR.out _ hS).2.2.2.1) HC4.out rfl HX0.out) hHeld ?_
 try simp only [sX]
 refine wpAnyH_take (i:=5) (v:=.pointer (some ⟨s,0,none⟩)) rfl (by kernel_rfl) (by kernel_rfl) (by kernel_rfl) (fun _ _ _ h => h) (Or.inl ⟨by kernel_rfl,fun _ hS => by kernel_rfl⟩) hHeld ?_
 try simp only [sX]
 refine wpAnyH_take (i:=6) (v:=.pointer (some ⟨s,0,none⟩)) rfl (by kernel_rfl) (by kernel_rfl) (by kernel_rfl) (fun _ _ _ h => h) (Or.inl ⟨by kernel_rfl,fun _ hS => by kernel_rfl⟩) hHeld ?_
 try simp only [sX]
 refine wpAnyH_take (i:=7) (v:=.pointer (some ⟨s,0,none⟩)) rfl (by kernel_rfl) (by kernel_rfl) (by kernel_rfl) (fun _ _ _ h => h) (Or.inl ⟨by kernel_rfl,fun _ hS => by kernel_rfl⟩) hHeld ?_
 try simp only [sX]
 refine wpAnyH_take (i:=8) (v:=.pointer (some ⟨p,0,none⟩)) rfl (by kernel_rfl) (by kernel_rfl) (by kernel_rfl) (fun _ _ _ h => h) (Or.inl ⟨by kernel_rfl,fun _ hS => ldSh_run _ rfl ⟨s,0,none⟩ rfl _ (HTR.out _ hS).2.2.2.2.2.2.1⟩) hHeld ?_
 try simp only [sX]
 refine wpAnyH_take (i:=9) (v:=.pointer (some ⟨s,0,none⟩)) rfl (by kernel_rfl) (by kernel_rfl) (by kernel_rfl) (fun _ _ _ h => h) (Or.inl ⟨by kernel_rfl,fun _ hS => by kernel_rfl⟩) hHeld ?_
 try simp only [sX]
 refine wpAnyH_take (i:=10) (v:=.pointer (some ⟨s,0,none⟩)) rfl (by kernel_rfl) (by kernel_rfl) (by kernel_rfl) (fun _ _ _ h => h) (Or.inl ⟨by kernel_rfl,fun _ hS => by kernel_rfl⟩) hHeld ?_
 try simp only [sX]
 refine wpAnyH_take (i:=11) (v:=.pointer (some ⟨s,1,none⟩)) rfl (by kernel_rfl) (by kernel_rfl) (by kernel_rfl) (fun _ _ _ h => h) (Or.inl ⟨by kernel_rfl,fun _ hS => by kernel_rfl⟩) hHeld ?_
 try simp only [sX]
 refine wpAnyH_take (i:=12) (v:=.pointer (some ⟨q,0,none⟩)) rfl (by kernel_rfl) (by kernel_rfl) (by kernel_rfl) (fun _ _ _ h => h) (Or.inl ⟨by kernel_rfl,fun _ hS => ldSh_run _ rfl ⟨s,1,none⟩ rfl _ (HTR.out _ hS).2.2.2.2.2.2.2⟩) hHeld ?_
 try simp only [sX]
 refine wpAnyH_take (i:=14) (v:=.agg n0.toArray) rfl (by kernel_rfl) (by kernel_rfl) (by kernel_rfl) (fun _ _ _ h => h) (yieldsIf_load_mid (by kernel_rfl) 44 _ rfl g3 0 rfl n0 _ (fun _ hS => (HTR.out _ hS).1) undN rfl HL0.out) hHeld ?_
 try simp only [sX]
 obtain ⟨wa,hwa⟩ : ∃ wa,wa = w.drew:=⟨_,rfl⟩
 rw [← hwa] at hHeld ⊢
 clear hwa
 refine wpAnyH_ready (rs:=[13]) (by kernel_rfl) (by simp) ?_
 refine AllReadyH.cons rfl (fun K hK => ?_) AllReadyH.nil
 go_simp
 refine (HS1.out wa hHeld).mono ?_
 rintro e wb ⟨A5,c5,rfl,-,hsl,-,-,hbn⟩
 obtain ⟨N5,hN5⟩ : ∃ N5,N5 = nodeA t.d A5 t.l.length c5:=⟨_,rfl⟩
 rw [nodeV,← hN5]
 have HN5:=Lib.hid (And.intro hN5 hsl)
 clear hN5 hsl
 try go_simp
 refine hK.out _ _ (hHeld.trans (hbn.mono hHeld.size)) (fun hHeld1 => ?_)
 clear hK K hHeld
 have hHeld:=hHeld1
 clear hHeld1
 try simp only [sX]
 clear hbn
 refine wpAnyH_ready (rs:=[15]) (by kernel_rfl) (by simp) ?_
 refine AllReadyH.cons rfl (fun K hK => ?_) AllReadyH.nil
 go_simp
 refine (HM1.out wb N5 _ _ _ hHeld HN5.out.1 (fun _ _ h => h.2) HN5.out.2).mono ?_
 rintro e wc ⟨rfl,hbn⟩
 try go_simp
 refine hK.out _ _ (hHeld.trans (hbn.mono hHeld.size)) (fun hHeld1 => ?_)
 clear hK K hHeld
 have hHeld:=hHeld1
 clear hHeld1
 try simp only [sX]
 clear hbn
 refine wpAnyH_take (i:=16) (v:=.bool true) rfl (by kernel_rfl) (by kernel_rfl) (by kernel_rfl) (fun _ _ _ h => h) (Or.inl ⟨by kernel_rfl,fun _ hS => by kernel_rfl⟩) hHeld ?_
 try simp only [sX]
 refine wpAnyH_take (i:=17) (v:=.agg n2.toArray) rfl (by kernel_rfl) (by kernel_rfl) (by kernel_rfl) (fun _ _ _ h => h) (yieldsIf_load_mid (by kernel_rfl) 44 _ rfl g18 0 rfl n2 _ (fun _ hS => (HTR.out _ hS).2.2.1) undN rfl HL2.out) hHeld ?_
 try simp only [sX]
 refine wpAnyH_take (i:=18) (v:=.agg n0.toArray) rfl (by kernel_rfl) (by kernel_rfl) (by kernel_rfl) (fun _ _ _ h => h) (yieldsIf_load_mid (by kernel_rfl) 44 _ rfl g3 0 rfl n0 _ (fun _ hS => (HTR.out _ hS).1) undN rfl HL0.out) hHeld ?_
 try simp only [sX]
 refine wpAnyH_take (i:=19) (v:=.pointer (some ⟨g4,0,none⟩)) rfl (by kernel_rfl) (by kernel_rfl) (by kernel_rfl) (fun _ _ _ h => h) (Or.inl ⟨by kernel_rfl,fun _ hS => by kernel_rfl⟩) hHeld ?_
 try simp only [sX]
 refine wpAnyH_take (i:=20) (v:=.agg X0.toArray) rfl (by kernel_rfl) (by kernel_rfl) (by kernel_rfl) (fun _ _ _ h => h) (yieldsIf_load_mid (by kernel_rfl) 33 _ rfl g4 0 rfl X0 _ (fun _ hS => (HTR.out _ hS).2.2.2.1) HC4.out rfl HX0.out) hHeld ?_
 try simp only [sX]
 refine wpAnyH_take (i:=21) (v:=.pointer (some ⟨g4,8,none⟩)) rfl (by kernel_rfl) (by kernel_rfl) (by kernel_rfl) (fun _ _ _ h => h) (Or.inl ⟨by kernel_rfl,fun _ hS => by kernel_rfl⟩) hHeld ?_
 try simp only [sX]
 refine wpAnyH_take (i:=22) (v:=.agg X2.toArray) rfl (by kernel_rfl) (by kernel_rfl) (by kernel_rfl) (fun _ _ _ h => h) (yieldsIf_load_mid (by kernel_rfl) 33 _ rfl g4 8 rfl X2 _ (fun _ hS => (HTR.out _ hS).2.2.2.2.2.1) HC4.out rfl HX2.out) hHeld ?_
 try simp only [sX]
 refine wpAnyH_take (i:=23) (v:=.pointer (some ⟨s,0,none⟩)) rfl (by kernel_rfl) (by kernel_rfl) (by kernel_rfl) (fun _ _ _ h => h) (Or.inl ⟨by kernel_rfl,fun _ hS => by kernel_rfl⟩) hHeld ?_
 try simp only [sX]
 refine wpAnyH_take (i:=24) (v:=.pointer (some ⟨s,0,none⟩)) rfl (by kernel_rfl) (by kernel_rfl) (by kernel_rfl) (fun _ _ _ h => h) (Or.inl ⟨by kernel_rfl,fun _ hS => by kernel_rfl⟩) hHeld ?_
 try simp only [sX]
 refine wpAnyH_take (i:=25) (v:=.pointer (some ⟨s,0,none⟩)) rfl (by kernel_rfl) (by kernel_rfl) (by kernel_rfl) (fun _ _ _ h => h) (Or.inl ⟨by kernel_rfl,fun _ hS => by kernel_rfl⟩) hHeld ?_
 try simp only [sX]
 refine wpAnyH_take (i:=26) (v:=.pointer (some ⟨p,0,none⟩)) rfl (by kernel_rfl) (by kernel_rfl) (by kernel_rfl) (fun _ _ _ h => h) (Or.inl ⟨by kernel_rfl,fun _ hS => ldSh_run _ rfl ⟨s,0,none⟩ rfl _ (HTR.out _ hS).2.2.2.2.2.2.1⟩) hHeld ?_
 try simp only [sX]
 refine wpAnyH_take (i:=27) (v:=.pointer (some ⟨s,0,none⟩)) rfl (by kernel_rfl) (by kernel_rfl) (by kernel_rfl) (fun _ _ _ h => h) (Or.inl ⟨by kernel_rfl,fun _ hS => by kernel_rfl⟩) hHeld ?_
 try simp only [sX]
 refine wpAnyH_take (i:=28) (v:=.pointer (some ⟨s,0,none⟩)) rfl (by kernel_rfl) (by kernel_rfl) (by kernel_rfl) (fun _ _ _ h => h) (Or.inl ⟨by kernel_rfl,fun _ hS => by kernel_rfl⟩) hHeld ?_
 try simp only [sX]
 refine wpAnyH_take (i:=29) (v:=.pointer (some ⟨s,1,none⟩)) rfl (by kernel_rfl) (by kernel_rfl) (by kernel_rfl) (fun _ _ _ h => h) (Or.inl ⟨by kernel_rfl,fun _ hS => by kernel_rfl⟩) hHeld ?_
 try simp only [sX]
 refine wpAnyH_take (i:=30) (v:=.pointer (some ⟨q,0,none⟩)) rfl (by kernel_rfl) (by kernel_rfl) (by kernel_rfl) (fun _ _ _ h => h) (Or.inl ⟨by kernel_rfl,fun _ hS => ldSh_run _ rfl ⟨s,1,none⟩ rfl _ (HTR.out _ hS).2.2.2.2.2.2.2⟩) hHeld ?_
 try simp only [sX]
 refine wpAnyH_ready (rs:=[31]) (by kernel_rfl) (by simp) ?_
 refine AllReadyH.cons rfl (fun K hK => ?_) AllReadyH.nil
 go_simp
 refine (HS2.out wc hHeld).mono ?_
 rintro e wd ⟨A5,c5,rfl,-,hsl,-,-,hbn⟩
 obtain ⟨N6,hN6⟩ : ∃ N5,N5 = nodeA v.d A5 v.l.length c5:=⟨_,rfl⟩
 rw [nodeV,← hN6]
 have HN6:=Lib.hid (And.intro hN6 hsl)
 clear hN6 hsl
 try go_simp
 refine hK.out _ _ (hHeld.trans (hbn.mono hHeld.size)) (fun hHeld1 => ?_)
 clear hK K hHeld
 have hHeld:=hHeld1
 clear hHeld1
 try simp only [sX]
 clear hbn
 refine wpAnyH_ready (rs:=[32]) (by kernel_rfl) (by simp) ?_
 refine AllReadyH.cons rfl (fun K hK => ?_) AllReadyH.nil
 go_simp
 refine (HM2.out wd N6 _ _ _ hHeld HN6.out.1 (fun _ _ h => h.2) HN6.out.2).mono ?_
 rintro e we ⟨rfl,hbn⟩
 try go_simp
 refine hK.out _ _ (hHeld.trans (hbn.mono hHeld.size)) (fun hHeld1 => ?_)
 clear hK K hHeld
 have hHeld:=hHeld1
 clear hHeld1
 try simp only [sX]
 clear hbn
 refine wpAnyH_take (i:=33) (v:=.bool true) rfl (by kernel_rfl) (by kernel_rfl) (by kernel_rfl) (fun _ _ _ h => h) (Or.inl ⟨by kernel_rfl,fun _ hS => by kernel_rfl⟩) hHeld ?_
 try simp only [sX]
 refine wpAnyH_take (i:=34) (v:=.bool true) rfl (by kernel_rfl) (by kernel_rfl) (by kernel_rfl) (fun _ _ _ h => h) (Or.inl ⟨by kernel_rfl,fun _ hS => by kernel_rfl⟩) hHeld ?_
 try simp only [sX]
 have HE:=Lib.hid hHeld
 refine wpAnyH_done (by kernel_rfl) ?_ _
 clear hHeld
 go_wp2_with fail
 exact HRET.out _ HE.out
end Go.Proofs.Ytbkmnboicihchaa
namespace Go.Proofs.Ytbkmnboicihchaa
set_option maxRecDepth 100000
set_option maxHeartbeats 8000000
set_option linter.unusedSimpArgs false
set_option linter.unusedVariables false
open Go Go.RowKit Go.Shelf Go.Maps
theorem AxRd.keep {w w' : World} {p q : Nat} {L : IL} (h : AxRd w q L) {cs : Array Value} (hp : w.heap[p]? = some (.cells cs 110)) (hk : KeepA p w w') (hne : q ≠ p) : AxRd w' q L:=by
 have hr : ∀ {e : TypeId} {size : Nat} {v : Value} {n : Nat} {xs : List Value},w.ownsRow 0 e size v n xs → e ≠ 110 → w'.ownsRow 0 e size v n xs:=fun h1 h2 => keep_row hk hp h1 h2
 obtain ⟨Ai,ci,Al,cl,b,Aa,ca,Av,cv,h⟩:=h
 refine ⟨Ai,ci,Al,cl,b,Aa,ca,Av,cv,(hk.block q (Array.getElem?_eq_some_iff.1 h.own).1 hne).trans h.own,hr h.ids (by decide),hr h.lives (by decide),?_,hr h.ahead (by decide),hr h.alive (by decide)⟩
 obtain ⟨es,clock,e1,e2⟩:=h.map
 have hbp : b ≠ p:=fun e => by rw [e,hp] at e1; cases e1
 exact ⟨es,clock,(hk.block b (Array.getElem?_eq_some_iff.1 e1).1 hbp).trans e1,e2⟩
theorem KeepA.z {p : Nat} {Z : Nat → Prop} {a b : World} (h : KeepA p a b) (hz : Z p) : KeepZ Z a b:=⟨h.os,h.tape,h.output,h.size,fun k hk hn => h.block k hk (fun e => hn (e ▸ hz))⟩
def at3 (x0 x1 x2 : Cl) (k : Nat) : Cl:=if k = 0 then x0 else if k = 1 then x1 else x2
theorem und3C : Try.prog.underlying 57 = some (.array 3 33):=by kernel_rfl
theorem inf3C (l : List Value) (h : l.length = 12) : (Try.prog.info? 57).map (·.size) = some l.length:=by rw [h]; kernel_rfl
theorem idx3_run {o : Oper} {ρ : Operand → Value} (w : World) (x y : Operand) (ho : o.op = .index 57 x y) (x0 x1 x2 : Cl) (k : Nat) (hk : k < 3) (hx : ρ x = .agg (x0.vals ++ (x1.vals ++ x2.vals)).toArray) (hy : ρ y = .int .i64 k) : (execOp ρ o).run Try.prog w = .ok (.value (.agg (at3 x0 x1 x2 k).vals.toArray)) w:=by
 unfold execOp
 simp only [ho,hx,hy]
 obtain ⟨⟨a0,b0⟩,⟨c0,d0⟩⟩:=x0
 obtain ⟨⟨a1,b1⟩,⟨c1,d1⟩⟩:=x1
 obtain ⟨⟨a2,b2⟩,⟨c2,d2⟩⟩:=x2
 have hk3 : k = 0 ∨ k = 1 ∨ k = 2:=by omega
 rcases hk3 with rfl | rfl | rfl <;> (show _ = _; kernel_rfl)
theorem fb_6_16 : fromRegion 16 (fromRegion 6 backC) = fromRegion 16 backC:=by kernel_rfl
theorem fb6 (u0 u1 u2 u5 u6 u8 u9 u10 u11 u12 u13 u14 u15 u16 u17 u18 u19 u20 u21 u22 u23 u24 u25 u26 u27 u28 u29 u30 u31 u32 u33 u34 u35 u36 u37 u38 u39 u40 u41 u42 u43 u44 u45 u46 u47 u48 u49 u50 u51 u52 u53 u54 u55 u56 u57 u58 u59 u60 u61 u62 u63 u64 u65 u66 u67 u68 u69 u70 u71 u72 u73 u74 u75 u76 u77 u78 u79 u80 u81 u82 u83 u84 u85 u86 u87 u88 u89 u90 u91 u92 u93 u94 u95 u96 u97 u98 u99 u100 u101 u102 u103 u104 u105 u106 u107 u108 u109 u110 u111 u112 u113 u114 u115 u116 u117 u118 u119 u120 u121 u122 u123 u124 u125 u126 u127 u128 u129 u130 u131 u132 u133 u134 u135 u136 u137 u138 u139 u140 u141 : Value) (W : World) (R0 : Ending → World → Prop) (g3 g4 s p q : Nat) (z u : Value) (x0 x1 x2 : Cl) (L M : IL)
   (h4 : W.heap[g4]? = some (.cells (x0.vals ++ (x1.vals ++ x2.vals)).toArray 57)) (hs : W.heap[s]? = some (.cells #[.pointer (some ⟨p,0,none⟩),.pointer (some ⟨q,0,none⟩),z,u] 72)) (hax : AxW W p L) (hay : AxW W q M) (hpq : p ≠ q) (hL : L.Ok) (hM : M.Ok) (hx : (x0.row.ok ∧ x0.col.ok) ∧ (x1.row.ok ∧ x1.col.ok) ∧ (x2.row.ok ∧ x2.col.ok))
   (hret : ∀ w',KeepZ (fun b => b = p ∨ b = q) W w' → R0 (.returned (.bool true)) w')
   (hk : ∀ (w' : World) (u0 u1 u2 u5 u6 u8 u9 u10 u11 u12 u13 u14 u15 u16 u17 u18 u19 u20 u21 u22 u23 u24 u25 u26 u27 u28 u29 u30 u31 u32 u33 u34 u35 u36 u37 u38 u39 u40 u41 u42 u43 u44 u45 u46 u47 u48 u49 u50 u51 u52 u53 u54 u55 u56 u57 u58 u59 u60 u61 u62 u63 u64 u65 u66 u67 u68 u69 u70 u71 u72 u73 u74 u75 u76 u77 u78 u79 u80 u81 u82 u83 u84 u85 u86 u87 u88 u89 u90 u91 u92 u93 u94 u95 u96 u97 u98 u99 u100 u101 u102 u103 u104 u105 u106 u107 u108 u109 u110 u111 u112 u113 u114 u115 u116 u117 u118 u119 u120 u121 u122 u123 u124 u125 u126 u127 u128 u129 u130 u131 u132 u133 u134 u135 u136 u137 u138 u139 u140 u141 : Value),AxRd w' p L → AxRd w' q M → KeepZ (fun b => b = p ∨ b = q) W w' → (∀ j,j < 3 → (placeL L.alive (at3 x0 x1 x2 j).row).isSome = true ∧ (placeL M.alive (at3 x0 x1 x2 j).col).isSome = true) → (fromRegion 16 backC).wp Try.prog (bodyPost Try.prog Try.f4 R0) ⟨#[u0,u1,u2,.pointer (some ⟨g3,0,none⟩),.pointer (some ⟨g4,0,none⟩),u5,u6,.pointer (some ⟨s,0,none⟩),u8,u9,u10,u11,u12,u13,u14,u15,u16,u17,u18,u19,u20,u21,u22,u23,u24,u25,u26,u27,u28,u29,u30,u31,u32,u33,u34,u35,u36,u37,u38,u39,u40,u41,u42,u43,u44,u45,u46,u47,u48,u49,u50,u51,u52,u53,u54,u55,u56,u57,u58,u59,u60,u61,u62,u63,u64,u65,u66,u67,u68,u69,u70,u71,u72,u73,u74,u75,u76,u77,u78,u79,u80,u81,u82,u83,u84,u85,u86,u87,u88,u89,u90,u91,u92,u93,u94,u95,u96,u97,u98,u99,u100,u101,u102,u103,u104,u105,u106,u107,u108,u109,u110,u111,u112,u113,u114,u115,u116,u117,u118,u119,u120,u121,u122,u123,u124,u125,u126,u127,u128,u129,u130,u131,u132,u133,u134,u135,u136,u137,u138,u139,u140,u141],[]⟩ w') :
   (fromRegion 6 backC).wp Try.prog (bodyPost Try.prog Try.f4 R0) ⟨#[u0,u1,u2,.pointer (some ⟨g3,0,none⟩),.pointer (some ⟨g4,0,none⟩),u5,u6,.pointer (some ⟨s,0,none⟩),u8,u9,u10,u11,u12,u13,u14,u15,u16,u17,u18,u19,u20,u21,u22,u23,u24,u25,u26,u27,u28,u29,u30,u31,u32,u33,u34,u35,u36,u37,u38,u39,u40,u41,u42,u43,u44,u45,u46,u47,u48,u49,u50,u51,u52,u53,u54,u55,u56,u57,u58,u59,u60,u61,u62,u63,u64,u65,u66,u67,u68,u69,u70,u71,u72,u73,u74,u75,u76,u77,u78,u79,u80,u81,u82,u83,u84,u85,u86,u87,u88,u89,u90,u91,u92,u93,u94,u95,u96,u97,u98,u99,u100,u101,u102,u103,u104,u105,u106,u107,u108,u109,u110,u111,u112,u113,u114,u115,u116,u117,u118,u119,u120,u121,u122,u123,u124,u125,u126,u127,u128,u129,u130,u131,u132,u133,u134,u135,u136,u137,u138,u139,u140,u141],[]⟩ W:=by
 dsimp only
 have e1:=cut_from 16 (fromRegion 6 backC)
 rw [fb_6_16] at e1
 obtain ⟨CO,hCO⟩ : ∃ CO,CO = fromRegion 16 backC:=⟨_,rfl⟩
 rw [← hCO] at e1 hk
 clear hCO
 dsimp only at hk
 obtain ⟨X,hX⟩ : ∃ X,X = x0.vals ++ (x1.vals ++ x2.vals):=⟨_,rfl⟩
 have hXl : X.length = 12:=by rw [hX]; rfl
 have hinf:=inf3C X hXl
 have hrg : W.rangeAt g4 0 X:=fun i v hv => by rw [Nat.zero_add,cell_of_row _ _ i _ _ _ h4,List.getElem?_toArray,← hX]; exact hv
 have hidx : ∀ (wx : World) (o : Oper) (ρ : Operand → Value) (x y : Operand) (ho : o.op = .index 57 x y) (k : Nat) (hk : k < 3) (hx : ρ x = .agg X.toArray) (hy : ρ y = .int .i64 k),(execOp ρ o).run Try.prog wx = .ok (.value (.agg (at3 x0 x1 x2 k).vals.toArray)) wx:=fun wx o ρ x y ho k hk hx hy => idx3_run wx x y ho x0 x1 x2 k hk (by rw [hx,hX]) hy
 have hok : ∀ k,k < 3 → (at3 x0 x1 x2 k).row.ok ∧ (at3 x0 x1 x2 k).col.ok:=fun k hk => by
   have hk3 : k = 0 ∨ k = 1 ∨ k = 2:=by omega
   rcases hk3 with rfl | rfl | rfl
   · exact hx.1
   · exact hx.2.1
   · exact hx.2.2
 obtain ⟨csp,hcp⟩:=hax.own
 obtain ⟨csq,hcq⟩:=hay.own
 have hsp : s ≠ p:=fun e => by rw [e,hcp] at hs; cases hs
 have hsq : s ≠ q:=fun e => by rw [e,hcq] at hs; cases hs
 have hsheet : ∀ wx,KeepZ (fun b => b = p ∨ b = q) W wx → wx.cell? ⟨s,0,none⟩ = some (.pointer (some ⟨p,0,none⟩)) ∧ wx.cell? ⟨s,1,none⟩ = some (.pointer (some ⟨q,0,none⟩)):=fun wx h => by
   have h1:=(h.block s (Array.getElem?_eq_some_iff.1 hs).1 (fun e => e.elim hsp hsq)).trans hs
   exact ⟨cell_of_row _ _ 0 _ _ _ h1,cell_of_row _ _ 1 _ _ _ h1⟩
 have hgen : ∀ k,∃ y,at3 x0 x1 x2 k = y:=fun k => ⟨_,rfl⟩
 obtain ⟨F,hF⟩ : ∃ F,F = at3 x0 x1 x2:=⟨_,rfl⟩
 rw [← hF] at hidx hok hk
 clear hgen
 have HRG:=Lib.hid hrg
 have HIN:=Lib.hid hinf
 have HIX:=Lib.hid hidx
 have HOK:=Lib.hid hok
 have HSH:=Lib.hid hsheet
 have HK:=Lib.hid hk
 have HRET:=Lib.hid hret
 have HLM:=Lib.hid (And.intro hL hM)
 have HAX:=Lib.hid (And.intro hax hay)
 have HPQ:=Lib.hid hpq
 have HU3:=Lib.hid und3C
 have HZC:=Lib.hid infC4
 have HIK:=Lib.hid (show ∀ a b : Value,(Try.prog.info? 31).map (·.size) = some [a,b].length from fun _ _ => infIk)
 clear hrg hinf hidx hok hsheet hk hret hL hM hax hay hpq h4 hs hx hX hXl hcp hcq hsp hsq hF
 rw [← e1]
 clear e1
 conv => arg 2; whnf; repeat (arg 2; whnf)
 go_upto_region 7 with (first | (refine wpList_mid rfl 57 _ rfl g4 0 rfl X _ HRG.out HU3.out rfl HIN.out ?_) | fail)
 go_loopw [40] (fun i wr => ∃ k : Nat,k ≤ 3 ∧ i = .int .i64 k ∧ Hid ((k = 0 ∨ (AxRd wr p L ∧ AxRd wr q M)) ∧ AxW wr p L ∧ AxW wr q M ∧ KeepZ (fun b => b = p ∨ b = q) W wr ∧ ∀ j,j < k → (placeL L.alive (F j).row).isSome = true ∧ (placeL M.alive (F j).col).isSome = true)) (fun i _ => 3 - (intOf i).toNat)
 case atStart => exact ⟨0,Nat.zero_le _,rfl,Lib.hid ⟨.inl rfl,HAX.out.1,HAX.out.2,KeepZ.refl _ _,fun j h => absurd h (Nat.not_lt_zero _)⟩⟩
 case round =>
   obtain ⟨k,hk3,rfl,hR⟩:=hrel
   by_cases hlt : k < 3
   · have hk1 : (k : Int) < 3:=by omega
     have hk0 : (0 : Int) ≤ k:=by omega
     have HOKK:=Lib.hid (HOK.out k hlt)
     have HIXK:=Lib.hid (fun wx o ρ x y ho => HIX.out wx o ρ x y ho k hlt)
     obtain ⟨⟨⟨xa,xn⟩,⟨ya,yn⟩⟩,hy⟩ : ∃ y,F k = y:=⟨_,rfl⟩
     rw [hy] at HOKK HIXK
     have HY:=Lib.hid hy
     clear hy
     obtain ⟨w2,hw2⟩ : ∃ w2,w2 = (wr.alloc (.cells #[.int .i64 0,.int .i64 0,.int .i64 0,.int .i64 0] 33)).setRow wr.heap.size #[.int .i64 xa,.int .i64 xn,.int .i64 ya,.int .i64 yn]:=⟨_,rfl⟩
     obtain ⟨g9,hg9⟩ : ∃ g,g = wr.heap.size:=⟨_,rfl⟩
     have hb2 : Below wr.heap.size wr w2:=by rw [hw2]; exact below_row ((Below.refl _ wr).alloc (Nat.le_refl _) _) (Nat.le_refl _) _
     have hk9 : w2.heap[g9]? = some (.cells #[.int .i64 xa,.int .i64 xn,.int .i64 ya,.int .i64 yn] 33):=by rw [hw2,hg9]; exact setRow_heap _ _ _ _ _ _ (heap_alloc_new _ _)
     have hpg : p ≠ g9:=by rw [hg9]; exact Nat.ne_of_lt hR.out.2.1.lt
     have hqg : q ≠ g9:=by rw [hg9]; exact Nat.ne_of_lt hR.out.2.2.1.lt
     have hkz2 : KeepZ (fun b => b = p ∨ b = q) W w2:=hR.out.2.2.2.1.trans (KeepZ.of hb2)
     have hsh2:=HSH.out w2 hkz2
     have hax2:=hR.out.2.1.below hb2
     have hay2:=hR.out.2.2.1.below hb2
     have HPL:=Lib.hid (fun (wx : World) (h : AxW wx p L) => placeW_c h HLM.out.1 ⟨xa,xn⟩ HOKK.out.1)
     have HPM:=Lib.hid (fun (wx : World) (h : AxW wx q M) => placeW_c h HLM.out.2 ⟨ya,yn⟩ HOKK.out.2)
     obtain ⟨zr,hzr⟩ : ∃ z : Int,z = (((placeL L.alive ⟨xa,xn⟩).getD 0 : Nat) : Int):=⟨_,rfl⟩
     obtain ⟨zc,hzc⟩ : ∃ z : Int,z = (((placeL M.alive ⟨ya,yn⟩).getD 0 : Nat) : Int):=⟨_,rfl⟩
     obtain ⟨fr,hfr⟩ : ∃ r,r = (placeL L.alive ⟨xa,xn⟩).isSome:=⟨_,rfl⟩
     obtain ⟨fc,hfc⟩ : ∃ r,r = (placeL M.alive ⟨ya,yn⟩).isSome:=⟨_,rfl⟩
     rw [← hfr,← hzr] at HPL
     rw [← hfc,← hzc] at HPM
     have HW2:=Lib.hid hw2
     have HG9:=Lib.hid hg9
     have HS2:=Lib.hid (And.intro hax2 (And.intro hay2 (And.intro hkz2 (And.intro hk9 (And.intro hpg hqg)))))
     have HFR:=Lib.hid (And.intro hfr hfc)
     have HRR:=Lib.hid hR.out.2.2.2.2
     clear hw2 hg9 hb2 hk9 hkz2 hax2 hay2 hpg hqg hR hfr hfc hzr hzc
     obtain ⟨c0,-⟩:=hsh2
     go_upto_region 9 with (first | (refine Great.wpList_readTo rfl _ rfl _ (HIXK.out _ _ _ _ _ rfl rfl rfl) ?_) | (refine wpList_store_row rfl 33 _ _ rfl wr.heap.size #[.int .i64 xa,.int .i64 xn,.int .i64 ya,.int .i64 yn] rfl rfl 33 #[.int .i64 0,.int .i64 0,.int .i64 0,.int .i64 0] (heap_alloc_new _ _) (HZC.out _ _ _ _) rfl (by kernel_rfl) ?_) | fail)
     change Code.wp _ _ _ _ ((wr.alloc (.cells #[.int .i64 0,.int .i64 0,.int .i64 0,.int .i64 0] 33)).setRow wr.heap.size #[.int .i64 xa,.int .i64 xn,.int .i64 ya,.int .i64 yn])
     rw [← HW2.out,← HG9.out]
     have HK92:=Lib.hid HS2.out.2.2.2.1
     have HZ2:=Lib.hid HS2.out.2.2.1
     have HP:=Lib.hid (HPL.out w2.drew (HS2.out.1.below (Below.refl _ w2).drew))
     clear c0
     have HTR2 : Hid (∀ wz,KeepZ (fun b => b = p ∨ b = q) w2 wz → wz.cell? ⟨s,0,none⟩ = some (.pointer (some ⟨p,0,none⟩)) ∧ wz.rangeAt g9 0 [.int .i64 xa,.int .i64 xn]):=Lib.hid (fun wz h => ⟨(HSH.out wz (HZ2.out.trans h)).1,(range_row4 ((h.block g9 (Array.getElem?_eq_some_iff.1 HK92.out).1 (fun e => e.elim (fun e => HS2.out.2.2.2.2.1 e.symm) (fun e => HS2.out.2.2.2.2.2 e.symm))).trans HK92.out)).1⟩)
     refine wp_region_held_drew (S:=fun wz => KeepZ (fun b => b = p ∨ b = q) w2 wz) (by kernel_rfl) (KeepZ.of (Below.refl _ w2).drew) (fun hHeld => ?_)
     refine wpAnyH_take (i:=0) (v:=.pointer (some ⟨s,0,none⟩)) rfl (by kernel_rfl) (by kernel_rfl) (by kernel_rfl) (fun _ _ _ h => h) (Or.inl ⟨by kernel_rfl,fun _ hS => by kernel_rfl⟩) hHeld ?_
     try simp only [sX]
     refine wpAnyH_take (i:=1) (v:=.pointer (some ⟨s,0,none⟩)) rfl (by kernel_rfl) (by kernel_rfl) (by kernel_rfl) (fun _ _ _ h => h) (Or.inl ⟨by kernel_rfl,fun _ hS => by kernel_rfl⟩) hHeld ?_
     try simp only [sX]
     refine wpAnyH_take (i:=2) (v:=.pointer (some ⟨s,0,none⟩)) rfl (by kernel_rfl) (by kernel_rfl) (by kernel_rfl) (fun _ _ _ h => h) (Or.inl ⟨by kernel_rfl,fun _ hS => by kernel_rfl⟩) hHeld ?_
     try simp only [sX]
     refine wpAnyH_take (i:=3) (v:=.pointer (some ⟨p,0,none⟩)) rfl (by kernel_rfl) (by kernel_rfl) (by kernel_rfl) (fun _ _ _ h => h) (Or.inl ⟨by kernel_rfl,fun _ hS => ldSh_run _ rfl ⟨s,0,none⟩ rfl _ (HTR2.out _ hS).1⟩) hHeld ?_
     try simp only [sX]
     refine wpAnyH_take (i:=4) (v:=.pointer (some ⟨g9,0,none⟩)) rfl (by kernel_rfl) (by kernel_rfl) (by kernel_rfl) (fun _ _ _ h => h) (Or.inl ⟨by kernel_rfl,fun _ hS => by kernel_rfl⟩) hHeld ?_
     try simp only [sX]
     refine wpAnyH_take (i:=5) (v:=.agg #[.int .i64 xa,.int .i64 xn]) rfl (by kernel_rfl) (by kernel_rfl) (by kernel_rfl) (fun _ _ _ h => h) (yieldsIf_load_mid (by kernel_rfl) 31 _ rfl g9 0 rfl [.int .i64 xa,.int .i64 xn] _ (fun _ hS => (HTR2.out _ hS).2) ikUnd rfl (HIK.out _ _)) hHeld ?_
     try simp only [sX]
     refine wpAnyH_ready (rs:=[6]) (by kernel_rfl) (by simp) ?_
     refine AllReadyH.cons rfl (fun K hK => ?_) AllReadyH.nil
     go_simp
     refine HP.out.mono ?_
     rintro e w3 ⟨rfl,hr2,hk2⟩
     try go_simp
     refine hK.out _ _ (hHeld.trans (KeepA.z hk2 (.inl rfl))) (fun hHeld1 => ?_)
     clear hK K hHeld
     have hHeld:=hHeld1
     clear hHeld1
     try simp only [sX]
     have HQ2:=Lib.hid (And.intro hr2 hk2)
     clear hr2 hk2
     refine wpAnyH_take (i:=7) (v:=.tuple #[.int .i64 zr,.bool fr]) rfl (by kernel_rfl) (by kernel_rfl) (by kernel_rfl) (fun _ _ _ h => h) (Or.inl ⟨by kernel_rfl,fun _ hS => by kernel_rfl⟩) hHeld ?_
     try simp only [sX]
     refine wpAnyH_take (i:=8) (v:=.int .i64 zr) rfl (by kernel_rfl) (by kernel_rfl) (by kernel_rfl) (fun _ _ _ h => h) (Or.inl ⟨by kernel_rfl,fun _ hS => by kernel_rfl⟩) hHeld ?_
     try simp only [sX]
     refine wpAnyH_take (i:=9) (v:=.bool fr) rfl (by kernel_rfl) (by kernel_rfl) (by kernel_rfl) (fun _ _ _ h => h) (Or.inl ⟨by kernel_rfl,fun _ hS => by kernel_rfl⟩) hHeld ?_
     try simp only [sX]
     refine wpAnyH_take (i:=10) (v:=.int .i64 zr) rfl (by kernel_rfl) (by kernel_rfl) (by kernel_rfl) (fun _ _ _ h => h) (Or.inl ⟨by kernel_rfl,fun _ hS => by kernel_rfl⟩) hHeld ?_
     try simp only [sX]
     refine wpAnyH_take (i:=11) (v:=.bool fr) rfl (by kernel_rfl) (by kernel_rfl) (by kernel_rfl) (fun _ _ _ h => h) (Or.inl ⟨by kernel_rfl,fun _ hS => by kernel_rfl⟩) hHeld ?_
     try simp only [sX]
     have HE2:=Lib.hid hHeld
     refine wpAnyH_done (by kernel_rfl) ?_ _
     clear hHeld
     have hkz3 : KeepZ (fun b => b = p ∨ b = q) W w3:=HZ2.out.trans HE2.out
     have HZ3:=Lib.hid hkz3
     cases fr with
     | false =>
       clear HP HPM HPL hkz3
       go_wp2
       exact HRET.out _ HZ3.out
     | true =>
     clear HP
     go_upto_region 12 with (fail)
     obtain ⟨cs2,hcs2⟩:=HS2.out.1.own
     have hay3 : AxW w3 q M:=((HS2.out.2.1.below (Below.refl _ w2).drew)).keep (show w2.drew.heap[p]? = _ from hcs2) HQ2.out.2 (fun e => HPQ.out e.symm)
     have hk93 : w3.heap[g9]? = some (.cells #[.int .i64 xa,.int .i64 xn,.int .i64 ya,.int .i64 yn] 33):=(HQ2.out.2.block g9 (Array.getElem?_eq_some_iff.1 HS2.out.2.2.2.1).1 (fun e => HS2.out.2.2.2.2.1 e.symm)).trans HS2.out.2.2.2.1
     have HK93:=Lib.hid hk93
     obtain ⟨cs3,hcs3⟩:=hay3.own
     have HY3:=Lib.hid (And.intro hay3 (show w3.drew.heap[q]? = _ from hcs3))
     have HP:=Lib.hid (HPM.out w3.drew (hay3.below (Below.refl _ w3).drew))
     clear hcs2 hay3 hk93 hcs3 hkz3
     have HTR3 : Hid (∀ wz,KeepZ (fun b => b = p ∨ b = q) w3 wz → wz.cell? ⟨s,1,none⟩ = some (.pointer (some ⟨q,0,none⟩)) ∧ wz.rangeAt g9 2 [.int .i64 ya,.int .i64 yn]):=Lib.hid (fun wz h => ⟨(HSH.out wz (HZ3.out.trans h)).2,(range_row4 ((h.block g9 (Array.getElem?_eq_some_iff.1 HK93.out).1 (fun e => e.elim (fun e => HS2.out.2.2.2.2.1 e.symm) (fun e => HS2.out.2.2.2.2.2 e.symm))).trans HK93.out)).2⟩)
     refine wp_region_held_drew (S:=fun wz => KeepZ (fun b => b = p ∨ b = q) w3 wz) (by kernel_rfl) (KeepZ.of (Below.refl _ w3).drew) (fun hHeld => ?_)
     refine wpAnyH_take (i:=0) (v:=.pointer (some ⟨s,0,none⟩)) rfl (by kernel_rfl) (by kernel_rfl) (by kernel_rfl) (fun _ _ _ h => h) (Or.inl ⟨by kernel_rfl,fun _ hS => by kernel_rfl⟩) hHeld ?_
     try simp only [sX]
     refine wpAnyH_take (i:=1) (v:=.pointer (some ⟨s,0,none⟩)) rfl (by kernel_rfl) (by kernel_rfl) (by kernel_rfl) (fun _ _ _ h => h) (Or.inl ⟨by kernel_rfl,fun _ hS => by kernel_rfl⟩) hHeld ?_
     try simp only [sX]
     refine wpAnyH_take (i:=2) (v:=.pointer (some ⟨s,1,none⟩)) rfl (by kernel_rfl) (by kernel_rfl) (by kernel_rfl) (fun _ _ _ h => h) (Or.inl ⟨by kernel_rfl,fun _ hS => by kernel_rfl⟩) hHeld ?_
     try simp only [sX]
     refine wpAnyH_take (i:=3) (v:=.pointer (some ⟨q,0,none⟩)) rfl (by kernel_rfl) (by kernel_rfl) (by kernel_rfl) (fun _ _ _ h => h) (Or.inl ⟨by kernel_rfl,fun _ hS => ldSh_run _ rfl ⟨s,1,none⟩ rfl _ (HTR3.out _ hS).1⟩) hHeld ?_
     try simp only [sX]
     refine wpAnyH_take (i:=4) (v:=.pointer (some ⟨g9,2,none⟩)) rfl (by kernel_rfl) (by kernel_rfl) (by kernel_rfl) (fun _ _ _ h => h) (Or.inl ⟨by kernel_rfl,fun _ hS => by kernel_rfl⟩) hHeld ?_
     try simp only [sX]
     refine wpAnyH_take (i:=5) (v:=.agg #[.int .i64 ya,.int .i64 yn]) rfl (by kernel_rfl) (by kernel_rfl) (by kernel_rfl) (fun _ _ _ h => h) (yieldsIf_load_mid (by kernel_rfl) 31 _ rfl g9 2 rfl [.int .i64 ya,.int .i64 yn] _ (fun _ hS => (HTR3.out _ hS).2) ikUnd rfl (HIK.out _ _)) hHeld ?_
     try simp only [sX]
     refine wpAnyH_ready (rs:=[6]) (by kernel_rfl) (by simp) ?_
     refine AllReadyH.cons rfl (fun K hK => ?_) AllReadyH.nil
     go_simp
     refine HP.out.mono ?_
     rintro e w4 ⟨rfl,hr3,hk3⟩
     try go_simp
     refine hK.out _ _ (hHeld.trans (KeepA.z hk3 (.inr rfl))) (fun hHeld1 => ?_)
     clear hK K hHeld
     have hHeld:=hHeld1
     clear hHeld1
     try simp only [sX]
     have HQ3:=Lib.hid (And.intro hr3 hk3)
     clear hr3 hk3
     refine wpAnyH_take (i:=7) (v:=.tuple #[.int .i64 zc,.bool fc]) rfl (by kernel_rfl) (by kernel_rfl) (by kernel_rfl) (fun _ _ _ h => h) (Or.inl ⟨by kernel_rfl,fun _ hS => by kernel_rfl⟩) hHeld ?_
     try simp only [sX]
     refine wpAnyH_take (i:=8) (v:=.int .i64 zc) rfl (by kernel_rfl) (by kernel_rfl) (by kernel_rfl) (fun _ _ _ h => h) (Or.inl ⟨by kernel_rfl,fun _ hS => by kernel_rfl⟩) hHeld ?_
     try simp only [sX]
     refine wpAnyH_take (i:=9) (v:=.bool fc) rfl (by kernel_rfl) (by kernel_rfl) (by kernel_rfl) (fun _ _ _ h => h) (Or.inl ⟨by kernel_rfl,fun _ hS => by kernel_rfl⟩) hHeld ?_
     try simp only [sX]
     refine wpAnyH_take (i:=10) (v:=.int .i64 zc) rfl (by kernel_rfl) (by kernel_rfl) (by kernel_rfl) (fun _ _ _ h => h) (Or.inl ⟨by kernel_rfl,fun _ hS => by kernel_rfl⟩) hHeld ?_
     try simp only [sX]
     refine wpAnyH_take (i:=11) (v:=.bool fc) rfl (by kernel_rfl) (by kernel_rfl) (by kernel_rfl) (fun _ _ _ h => h) (Or.inl ⟨by kernel_rfl,fun _ hS => by kernel_rfl⟩) hHeld ?_
     try simp only [sX]
     have HE3:=Lib.hid hHeld
     refine wpAnyH_done (by kernel_rfl) ?_ _
     clear hHeld
     have HZ4 : Hid (KeepZ (fun b => b = p ∨ b = q) W w4):=Lib.hid (HZ3.out.trans HE3.out)
     cases fc with
     | false =>
       clear HP HPM HPL
       go_wp2
       exact HRET.out _ HZ4.out
     | true =>
     clear HP
     have hp4 : AxRd w4 p L:=((HQ2.out.1.below (Below.refl _ w3).drew)).keep HY3.out.2 HQ3.out.2 HPQ.out
     have HN : Hid ((k + 1 = 0 ∨ (AxRd w4 p L ∧ AxRd w4 q M)) ∧ AxW w4 p L ∧ AxW w4 q M ∧ KeepZ (fun b => b = p ∨ b = q) W w4 ∧ ∀ j,j < k + 1 → (placeL L.alive (F j).row).isSome = true ∧ (placeL M.alive (F j).col).isSome = true):=Lib.hid ⟨.inr ⟨hp4,HQ3.out.1⟩,.inl hp4,.inl HQ3.out.1,HZ4.out,fun j hj => by
       by_cases e : j = k
       · subst e
         rw [HY.out]
         exact ⟨HFR.out.1.symm,HFR.out.2.symm⟩
       · exact HRR.out j (by omega)⟩
     clear hp4
     go_wp2
     go_roundw
     case measure => simp [intOf]; omega
     case rel => exact ⟨k + 1,by omega,by go_num,HN⟩
   · obtain rfl : k = 3:=by omega
     have HF:=hR
     clear hR
     go_wp2
     exact HK.out _ _ _ _ _ _ _ _ _ _ _ _ _ _ _ _ _ _ _ _ _ _ _ _ _ _ _ _ _ _ _ _ _ _ _ _ _ _ _ _ _ _ _ _ _ _ _ _ _ _ _ _ _ _ _ _ _ _ _ _ _ _ _ _ _ _ _ _ _ _ _ _ _ _ _ _ _ _ _ _ _ _ _ _ _ _ _ _ _ _ _ _ _ _ _ _ _ _ _ _ _ _ _ _ _ _ _ _ _ _ _ _ _ _ _ _ _ _ _ _ _ _ _ _ _ _ _ _ _ _ _ _ _ _ _ _ _ _ _ _ (HF.out.1.resolve_left (by decide)).1 (HF.out.1.resolve_left (by decide)).2 HF.out.2.2.2.1 HF.out.2.2.2.2
end Go.Proofs.Ytbkmnboicihchaa
namespace Go.Proofs.Ytbkmnboicihchaa
set_option maxRecDepth 100000
set_option maxHeartbeats 8000000
set_option linter.unusedSimpArgs false
set_option linter.unusedVariables false
open Go Go.RowKit Go.Shelf Go.Maps
theorem fb_4_6 : fromRegion 6 (fromRegion 4 backC) = fromRegion 6 backC:=by kernel_rfl
theorem fb6_end (u0 u1 u2 u5 u6 u8 u9 u10 u11 u12 u13 u14 u15 u16 u17 u18 u19 u20 u21 u22 u23 u24 u25 u26 u27 u28 u29 u30 u31 u32 u33 u34 u35 u36 u37 u38 u39 u40 u41 u42 u43 u44 u45 u46 u47 u48 u49 u50 u51 u52 u53 u54 u55 u56 u57 u58 u59 u60 u61 u62 u63 u64 u65 u66 u67 u68 u69 u70 u71 u72 u73 u74 u75 u76 u77 u78 u79 u80 u81 u82 u83 u84 u85 u86 u87 u88 u89 u90 u91 u92 u93 u94 u95 u96 u97 u98 u99 u100 u101 u102 u103 u104 u105 u106 u107 u108 u109 u110 u111 u112 u113 u114 u115 u116 u117 u118 u119 u120 u121 u122 u123 u124 u125 u126 u127 u128 u129 u130 u131 u132 u133 u134 u135 u136 u137 u138 u139 u140 u141 : Value) (W : World) (R0 : Ending → World → Prop) (g3 g4 s p q : Nat) (z u : Value) (x0 x1 x2 : Cl) (L M : IL) (t : Tr) (A : Option Addr) (c lo : Nat)
   (hn : NodeIn W g3 t A c) (hsl : SlAt W lo A c t.l) (hd : t.d.ok) (hz : t.size ≤ 1048576) (hlf : leafT t)
   (h4 : W.heap[g4]? = some (.cells (x0.vals ++ (x1.vals ++ x2.vals)).toArray 57)) (hs : W.heap[s]? = some (.cells #[.pointer (some ⟨p,0,none⟩),.pointer (some ⟨q,0,none⟩),z,u] 72)) (hax : AxW W p L) (hay : AxW W q M) (hpq : p ≠ q) (hL : L.Ok) (hM : M.Ok) (hx : (x0.row.ok ∧ x0.col.ok) ∧ (x1.row.ok ∧ x1.col.ok) ∧ (x2.row.ok ∧ x2.col.ok))
   (hlo : lo ≤ W.heap.size) (hlp : lo ≤ p ∧ lo ≤ q)
   (hret : ∀ w',Below lo W w' → R0 (.returned (.bool true)) w') :
   (fromRegion 6 backC).wp Try.prog (bodyPost Try.prog Try.f4 R0) ⟨#[u0,u1,u2,.pointer (some ⟨g3,0,none⟩),.pointer (some ⟨g4,0,none⟩),u5,u6,.pointer (some ⟨s,0,none⟩),u8,u9,u10,u11,u12,u13,u14,u15,u16,u17,u18,u19,u20,u21,u22,u23,u24,u25,u26,u27,u28,u29,u30,u31,u32,u33,u34,u35,u36,u37,u38,u39,u40,u41,u42,u43,u44,u45,u46,u47,u48,u49,u50,u51,u52,u53,u54,u55,u56,u57,u58,u59,u60,u61,u62,u63,u64,u65,u66,u67,u68,u69,u70,u71,u72,u73,u74,u75,u76,u77,u78,u79,u80,u81,u82,u83,u84,u85,u86,u87,u88,u89,u90,u91,u92,u93,u94,u95,u96,u97,u98,u99,u100,u101,u102,u103,u104,u105,u106,u107,u108,u109,u110,u111,u112,u113,u114,u115,u116,u117,u118,u119,u120,u121,u122,u123,u124,u125,u126,u127,u128,u129,u130,u131,u132,u133,u134,u135,u136,u137,u138,u139,u140,u141],[]⟩ W:=by
 have hlow : ∀ w',KeepZ (fun b => b = p ∨ b = q) W w' → Below lo W w':=fun w' h => h.low hlo (fun k hk => hk.elim (fun e => e ▸ hlp.1) (fun e => e ▸ hlp.2))
 refine fb6 u0 u1 u2 u5 u6 u8 u9 u10 u11 u12 u13 u14 u15 u16 u17 u18 u19 u20 u21 u22 u23 u24 u25 u26 u27 u28 u29 u30 u31 u32 u33 u34 u35 u36 u37 u38 u39 u40 u41 u42 u43 u44 u45 u46 u47 u48 u49 u50 u51 u52 u53 u54 u55 u56 u57 u58 u59 u60 u61 u62 u63 u64 u65 u66 u67 u68 u69 u70 u71 u72 u73 u74 u75 u76 u77 u78 u79 u80 u81 u82 u83 u84 u85 u86 u87 u88 u89 u90 u91 u92 u93 u94 u95 u96 u97 u98 u99 u100 u101 u102 u103 u104 u105 u106 u107 u108 u109 u110 u111 u112 u113 u114 u115 u116 u117 u118 u119 u120 u121 u122 u123 u124 u125 u126 u127 u128 u129 u130 u131 u132 u133 u134 u135 u136 u137 u138 u139 u140 u141 W R0 g3 g4 s p q z u x0 x1 x2 L M h4 hs hax hay hpq hL hM hx (fun w' h => hret w' (hlow w' h)) ?_
 intro w1 u0 u1 u2 u5 u6 u8 u9 u10 u11 u12 u13 u14 u15 u16 u17 u18 u19 u20 u21 u22 u23 u24 u25 u26 u27 u28 u29 u30 u31 u32 u33 u34 u35 u36 u37 u38 u39 u40 u41 u42 u43 u44 u45 u46 u47 u48 u49 u50 u51 u52 u53 u54 u55 u56 u57 u58 u59 u60 u61 u62 u63 u64 u65 u66 u67 u68 u69 u70 u71 u72 u73 u74 u75 u76 u77 u78 u79 u80 u81 u82 u83 u84 u85 u86 u87 u88 u89 u90 u91 u92 u93 u94 u95 u96 u97 u98 u99 u100 u101 u102 u103 u104 u105 u106 u107 u108 u109 u110 u111 u112 u113 u114 u115 u116 u117 u118 u119 u120 u121 u122 u123 u124 u125 u126 u127 u128 u129 u130 u131 u132 u133 u134 u135 u136 u137 u138 u139 u140 u141 hr1 hr2 hk1 hpl
 obtain ⟨csp,hcp⟩:=hax.own
 obtain ⟨csq,hcq⟩:=hay.own
 have hne : ∀ {b : Nat} {cs : Array Value} {ty : TypeId},W.heap[b]? = some (.cells cs ty) → ty ≠ 110 → ¬ (b = p ∨ b = q):=fun h1 h2 h3 => by
   rcases h3 with rfl | rfl
   · rw [h1] at hcp; cases hcp; exact h2 rfl
   · rw [h1] at hcq; cases hcq; exact h2 rfl
 have hkb : ∀ {b : Nat} {cs : Array Value} {ty : TypeId},W.heap[b]? = some (.cells cs ty) → ty ≠ 110 → w1.heap[b]? = some (.cells cs ty):=fun h1 h2 => (hk1.block _ (Array.getElem?_eq_some_iff.1 h1).1 (hne h1 h2)).trans h1
 have hB1 : BkS w1 g4 s p q z u x0 x1 x2 L M:=⟨hkb h4 (by decide),hkb hs (by decide),hr1,hr2⟩
 have hb1:=hlow w1 hk1
 have hl1 : lo ≤ w1.heap.size:=Nat.le_trans hlo hk1.size
 have hn1 : NodeIn w1 g3 t A c:=⟨hkb hn.1 (by decide),(hsl.below hb1).more hl1⟩
 have hpL : p = q → L = M:=fun e => absurd e hpq
 refine fb16 u0 u1 u2 u5 u6 u8 u9 u10 u11 u12 u13 u14 u15 u16 u17 u18 u19 u20 u21 u22 u23 u24 u25 u26 u27 u28 u29 u30 u31 u32 u33 u34 u35 u36 u37 u38 u39 u40 u41 u42 u43 u44 u45 u46 u47 u48 u49 u50 u51 u52 u53 u54 u55 u56 u57 u58 u59 u60 u61 u62 u63 u64 u65 u66 u67 u68 u69 u70 u71 u72 u73 u74 u75 u76 u77 u78 u79 u80 u81 u82 u83 u84 u85 u86 u87 u88 u89 u90 u91 u92 u93 u94 u95 u96 u97 u98 u99 u100 u101 u102 u103 u104 u105 u106 u107 u108 u109 u110 u111 u112 u113 u114 u115 u116 u117 u118 u119 u120 u121 u122 u123 u124 u125 u126 u127 u128 u129 u130 u131 u132 u133 u134 u135 u136 u137 u138 u139 u140 u141 w1 R0 g3 g4 s p q z u x0 x1 x2 L M t A c hB1 hL hM hpL hn1 hd hz ⟨hx.1,hx.2.1⟩ ?_
 intro w2 g17 A1 c1 u0 u1 u2 u5 u6 u8 u9 u10 u11 u12 u13 u14 u15 u16 u18 u19 u20 u21 u22 u23 u24 u25 u26 u27 u28 u29 u30 u31 u32 u33 u34 u35 u36 u37 u38 u39 u40 u41 u42 u43 u44 u45 u46 u47 u48 u49 u50 u51 u52 u53 u54 u55 u56 u57 u58 u59 u60 u61 u62 u63 u64 u65 u66 u67 u68 u69 u70 u71 u72 u73 u74 u75 u76 u77 u78 u79 u80 u81 u82 u83 u84 u85 u86 u87 u88 u89 u90 u91 u92 u93 u94 u95 u96 u97 u98 u99 u100 u101 u102 u103 u104 u105 u106 u107 u108 u109 u110 u111 u112 u113 u114 u115 u116 u117 u118 u119 u120 u121 u122 u123 u124 u125 u126 u127 u128 u129 u130 u131 u132 u133 u134 u135 u136 u137 u138 u139 u140 u141 hn17 hd17 hb2
 obtain ⟨r,hr⟩ : ∃ r,r = shiftT L.alive M.alive x0 x1 t:=⟨_,rfl⟩
 have hzr : r.size ≤ 1048576:=by rw [hr]; exact Nat.le_trans (shift_size _ _ _ _ _) hz
 rw [← hr] at hn17 hd17
 have hB2:=hB1.below hb2
 have hn2:=hn1.below hb2
 refine fb17 u0 u1 u2 u5 u6 u8 u9 u10 u11 u12 u13 u14 u15 u16 u18 u19 u20 u21 u22 u23 u24 u25 u26 u27 u28 u29 u30 u31 u32 u33 u34 u35 u36 u37 u38 u39 u40 u41 u42 u43 u44 u45 u46 u47 u48 u49 u50 u51 u52 u53 u54 u55 u56 u57 u58 u59 u60 u61 u62 u63 u64 u65 u66 u67 u68 u69 u70 u71 u72 u73 u74 u75 u76 u77 u78 u79 u80 u81 u82 u83 u84 u85 u86 u87 u88 u89 u90 u91 u92 u93 u94 u95 u96 u97 u98 u99 u100 u101 u102 u103 u104 u105 u106 u107 u108 u109 u110 u111 u112 u113 u114 u115 u116 u117 u118 u119 u120 u121 u122 u123 u124 u125 u126 u127 u128 u129 u130 u131 u132 u133 u134 u135 u136 u137 u138 u139 u140 u141 w2 R0 g3 g4 g17 s p q z u x0 x1 x2 L M r A1 c1 hB2 hL hM hpL hn17 hd17 hzr ⟨hx.2.1,hx.2.2⟩ ?_
 intro w3 g18 A2 c2 u0 u1 u2 u5 u6 u8 u9 u10 u11 u12 u13 u14 u15 u16 u19 u20 u21 u22 u23 u24 u25 u26 u27 u28 u29 u30 u31 u32 u33 u34 u35 u36 u37 u38 u39 u40 u41 u42 u43 u44 u45 u46 u47 u48 u49 u50 u51 u52 u53 u54 u55 u56 u57 u58 u59 u60 u61 u62 u63 u64 u65 u66 u67 u68 u69 u70 u71 u72 u73 u74 u75 u76 u77 u78 u79 u80 u81 u82 u83 u84 u85 u86 u87 u88 u89 u90 u91 u92 u93 u94 u95 u96 u97 u98 u99 u100 u101 u102 u103 u104 u105 u106 u107 u108 u109 u110 u111 u112 u113 u114 u115 u116 u117 u118 u119 u120 u121 u122 u123 u124 u125 u126 u127 u128 u129 u130 u131 u132 u133 u134 u135 u136 u137 u138 u139 u140 u141 hn18 hd18 hb3
 obtain ⟨v,hv⟩ : ∃ v,v = shiftT L.alive M.alive x1 x2 r:=⟨_,rfl⟩
 have hzv : v.size ≤ 1048576:=by rw [hv]; exact Nat.le_trans (shift_size _ _ _ _ _) hzr
 rw [← hv] at hn18 hd18
 have hB3:=hB2.below hb3
 have hn3:=hn2.below hb3
 have hn173:=hn17.below hb3
 have hbl3 : Below lo W w3:=(hb1.trans (hb2.mono hl1)).trans (hb3.mono (Nat.le_trans hl1 hb2.size))
 have hl3 : lo ≤ w3.heap.size:=Nat.le_trans hl1 (Nat.le_trans hb2.size hb3.size)
 refine fb18 u0 u1 u2 u5 u6 u8 u9 u10 u11 u12 u13 u14 u15 u16 u19 u20 u21 u22 u23 u24 u25 u26 u27 u28 u29 u30 u31 u32 u33 u34 u35 u36 u37 u38 u39 u40 u41 u42 u43 u44 u45 u46 u47 u48 u49 u50 u51 u52 u53 u54 u55 u56 u57 u58 u59 u60 u61 u62 u63 u64 u65 u66 u67 u68 u69 u70 u71 u72 u73 u74 u75 u76 u77 u78 u79 u80 u81 u82 u83 u84 u85 u86 u87 u88 u89 u90 u91 u92 u93 u94 u95 u96 u97 u98 u99 u100 u101 u102 u103 u104 u105 u106 u107 u108 u109 u110 u111 u112 u113 u114 u115 u116 u117 u118 u119 u120 u121 u122 u123 u124 u125 u126 u127 u128 u129 u130 u131 u132 u133 u134 u135 u136 u137 u138 u139 u140 u141 w3 R0 g3 g4 g17 g18 s t r v A A1 A2 c c1 c2 hn3 hn173 hn18 ⟨hd,hd17,hd18⟩ ⟨hz,hzr,hzv⟩ (fun w' h => hret w' (hbl3.trans (h.mono hl3))) ?_
 intro hlr hlv w4 u0 u1 u2 u5 u6 u8 u9 u10 u11 u12 u13 u14 u15 u16 u19 u20 u21 u22 u23 u24 u25 u26 u27 u28 u29 u30 u31 u32 u33 u34 u35 u36 u37 u38 u39 u40 u41 u42 u43 u44 u45 u46 u47 u48 u49 u50 u51 u52 u53 u54 u55 u56 u57 u58 u59 u60 u61 u62 u63 u64 u65 u66 u67 u68 u69 u70 u71 u72 u73 u74 u75 u76 u77 u78 u79 u80 u81 u82 u83 u84 u85 u86 u87 u88 u89 u90 u91 u92 u93 u94 u95 u96 u97 u98 u99 u100 u101 u102 u103 u104 u105 u106 u107 u108 u109 u110 u111 u112 u113 u114 u115 u116 u117 u118 u119 u120 u121 u122 u123 u124 u125 u126 u127 u128 u129 u130 u131 u132 u133 u134 u135 u136 u137 u138 u139 u140 u141 hb4
 have hnL:=IL.alive_nodup hL.nodup
 have hnM:=IL.alive_nodup hM.nodup
 obtain ⟨a0,e0⟩:=Option.isSome_iff_exists.1 (hpl 0 (by decide)).1
 obtain ⟨b0,k0⟩:=Option.isSome_iff_exists.1 (hpl 0 (by decide)).2
 obtain ⟨a1,e1⟩:=Option.isSome_iff_exists.1 (hpl 1 (by decide)).1
 obtain ⟨b1,k1⟩:=Option.isSome_iff_exists.1 (hpl 1 (by decide)).2
 obtain ⟨a2,e2⟩:=Option.isSome_iff_exists.1 (hpl 2 (by decide)).1
 obtain ⟨b2,k2⟩:=Option.isSome_iff_exists.1 (hpl 2 (by decide)).2
 obtain ⟨f1,f2⟩:=fill_back hnL hnM (c0:=x0) (c1:=x1) (c2:=x2) e0 e1 e2 k0 k1 k2 hlf (by rw [← hr]; exact hlr) (by rw [← hr,← hv]; exact hlv)
 rw [← hr] at f1 f2
 rw [← hv] at f2
 refine fb20 u0 u1 u2 u5 u6 u8 u9 u10 u11 u12 u13 u14 u15 u16 u19 u20 u21 u22 u23 u24 u25 u26 u27 u28 u29 u30 u31 u32 u33 u34 u35 u36 u37 u38 u39 u40 u41 u42 u43 u44 u45 u46 u47 u48 u49 u50 u51 u52 u53 u54 u55 u56 u57 u58 u59 u60 u61 u62 u63 u64 u65 u66 u67 u68 u69 u70 u71 u72 u73 u74 u75 u76 u77 u78 u79 u80 u81 u82 u83 u84 u85 u86 u87 u88 u89 u90 u91 u92 u93 u94 u95 u96 u97 u98 u99 u100 u101 u102 u103 u104 u105 u106 u107 u108 u109 u110 u111 u112 u113 u114 u115 u116 u117 u118 u119 u120 u121 u122 u123 u124 u125 u126 u127 u128 u129 u130 u131 u132 u133 u134 u135 u136 u137 u138 u139 u140 u141 w4 R0 g3 g4 g17 g18 s p q z u x0 x1 x2 L M t r v A A1 A2 c c1 c2 (hB3.below hb4) hL hM hpL (hn3.below hb4) (hn173.below hb4) (hn18.below hb4) ⟨hd,hd17,hd18⟩ ⟨hz,hzr,hzv⟩ hx f1 f2.symm ?_
 exact fun w' h => hret w' ((hbl3.trans (hb4.mono hl3)).trans (h.mono (Nat.le_trans hl3 hb4.size)))
theorem fb4 (u0 u1 u2 u5 u6 u8 u9 u11 u12 u13 u14 u15 u16 u17 u18 u19 u20 u21 u22 u23 u24 u25 u26 u27 u28 u29 u30 u31 u32 u33 u34 u35 u36 u37 u38 u39 u40 u41 u42 u43 u44 u45 u46 u47 u48 u49 u50 u51 u52 u53 u54 u55 u56 u57 u58 u59 u60 u61 u62 u63 u64 u65 u66 u67 u68 u69 u70 u71 u72 u73 u74 u75 u76 u77 u78 u79 u80 u81 u82 u83 u84 u85 u86 u87 u88 u89 u90 u91 u92 u93 u94 u95 u96 u97 u98 u99 u100 u101 u102 u103 u104 u105 u106 u107 u108 u109 u110 u111 u112 u113 u114 u115 u116 u117 u118 u119 u120 u121 u122 u123 u124 u125 u126 u127 u128 u129 u130 u131 u132 u133 u134 u135 u136 u137 u138 u139 u140 u141 : Value) (W : World) (R0 : Ending → World → Prop) (g3 g4 s p q : Nat) (z u : Value) (x0 x1 x2 : Cl) (L M : IL) (t : Tr) (A : Option Addr) (c lo : Nat)
   (hn : NodeIn W g3 t A c) (hsl : SlAt W lo A c t.l) (hd : t.d.ok) (hz : t.size ≤ 1048576)
   (h4 : W.heap[g4]? = some (.cells (x0.vals ++ (x1.vals ++ x2.vals)).toArray 57)) (hs : W.heap[s]? = some (.cells #[.pointer (some ⟨p,0,none⟩),.pointer (some ⟨q,0,none⟩),z,u] 72)) (hax : AxW W p L) (hay : AxW W q M) (hpq : p ≠ q) (hL : L.Ok) (hM : M.Ok) (hx : (x0.row.ok ∧ x0.col.ok) ∧ (x1.row.ok ∧ x1.col.ok) ∧ (x2.row.ok ∧ x2.col.ok))
   (hlo : lo ≤ W.heap.size) (hlp : lo ≤ p ∧ lo ≤ q)
   (hret : ∀ w',Below lo W w' → R0 (.returned (.bool true)) w') :
   (fromRegion 4 backC).wp Try.prog (bodyPost Try.prog Try.f4 R0) ⟨#[u0,u1,u2,.pointer (some ⟨g3,0,none⟩),.pointer (some ⟨g4,0,none⟩),u5,u6,.pointer (some ⟨s,0,none⟩),u8,u9,.int .i64 1,u11,u12,u13,u14,u15,u16,u17,u18,u19,u20,u21,u22,u23,u24,u25,u26,u27,u28,u29,u30,u31,u32,u33,u34,u35,u36,u37,u38,u39,u40,u41,u42,u43,u44,u45,u46,u47,u48,u49,u50,u51,u52,u53,u54,u55,u56,u57,u58,u59,u60,u61,u62,u63,u64,u65,u66,u67,u68,u69,u70,u71,u72,u73,u74,u75,u76,u77,u78,u79,u80,u81,u82,u83,u84,u85,u86,u87,u88,u89,u90,u91,u92,u93,u94,u95,u96,u97,u98,u99,u100,u101,u102,u103,u104,u105,u106,u107,u108,u109,u110,u111,u112,u113,u114,u115,u116,u117,u118,u119,u120,u121,u122,u123,u124,u125,u126,u127,u128,u129,u130,u131,u132,u133,u134,u135,u136,u137,u138,u139,u140,u141],[]⟩ W:=by
 dsimp only
 have e1:=cut_from 6 (fromRegion 4 backC)
 rw [fb_4_6] at e1
 have hend : checkI t = 0 → ∀ (w' : World) (u0 u1 u2 u5 u6 u8 u9 u10 u11 u12 u13 u14 u15 u16 u17 u18 u19 u20 u21 u22 u23 u24 u25 u26 u27 u28 u29 u30 u31 u32 u33 u34 u35 u36 u37 u38 u39 u40 u41 u42 u43 u44 u45 u46 u47 u48 u49 u50 u51 u52 u53 u54 u55 u56 u57 u58 u59 u60 u61 u62 u63 u64 u65 u66 u67 u68 u69 u70 u71 u72 u73 u74 u75 u76 u77 u78 u79 u80 u81 u82 u83 u84 u85 u86 u87 u88 u89 u90 u91 u92 u93 u94 u95 u96 u97 u98 u99 u100 u101 u102 u103 u104 u105 u106 u107 u108 u109 u110 u111 u112 u113 u114 u115 u116 u117 u118 u119 u120 u121 u122 u123 u124 u125 u126 u127 u128 u129 u130 u131 u132 u133 u134 u135 u136 u137 u138 u139 u140 u141 : Value),Below W.heap.size W w' → (fromRegion 6 backC).wp Try.prog (bodyPost Try.prog Try.f4 R0) ⟨#[u0,u1,u2,.pointer (some ⟨g3,0,none⟩),.pointer (some ⟨g4,0,none⟩),u5,u6,.pointer (some ⟨s,0,none⟩),u8,u9,u10,u11,u12,u13,u14,u15,u16,u17,u18,u19,u20,u21,u22,u23,u24,u25,u26,u27,u28,u29,u30,u31,u32,u33,u34,u35,u36,u37,u38,u39,u40,u41,u42,u43,u44,u45,u46,u47,u48,u49,u50,u51,u52,u53,u54,u55,u56,u57,u58,u59,u60,u61,u62,u63,u64,u65,u66,u67,u68,u69,u70,u71,u72,u73,u74,u75,u76,u77,u78,u79,u80,u81,u82,u83,u84,u85,u86,u87,u88,u89,u90,u91,u92,u93,u94,u95,u96,u97,u98,u99,u100,u101,u102,u103,u104,u105,u106,u107,u108,u109,u110,u111,u112,u113,u114,u115,u116,u117,u118,u119,u120,u121,u122,u123,u124,u125,u126,u127,u128,u129,u130,u131,u132,u133,u134,u135,u136,u137,u138,u139,u140,u141],[]⟩ w':=fun hck w' u0 u1 u2 u5 u6 u8 u9 u10 u11 u12 u13 u14 u15 u16 u17 u18 u19 u20 u21 u22 u23 u24 u25 u26 u27 u28 u29 u30 u31 u32 u33 u34 u35 u36 u37 u38 u39 u40 u41 u42 u43 u44 u45 u46 u47 u48 u49 u50 u51 u52 u53 u54 u55 u56 u57 u58 u59 u60 u61 u62 u63 u64 u65 u66 u67 u68 u69 u70 u71 u72 u73 u74 u75 u76 u77 u78 u79 u80 u81 u82 u83 u84 u85 u86 u87 u88 u89 u90 u91 u92 u93 u94 u95 u96 u97 u98 u99 u100 u101 u102 u103 u104 u105 u106 u107 u108 u109 u110 u111 u112 u113 u114 u115 u116 u117 u118 u119 u120 u121 u122 u123 u124 u125 u126 u127 u128 u129 u130 u131 u132 u133 u134 u135 u136 u137 u138 u139 u140 u141 hb => by
   refine fb6_end u0 u1 u2 u5 u6 u8 u9 u10 u11 u12 u13 u14 u15 u16 u17 u18 u19 u20 u21 u22 u23 u24 u25 u26 u27 u28 u29 u30 u31 u32 u33 u34 u35 u36 u37 u38 u39 u40 u41 u42 u43 u44 u45 u46 u47 u48 u49 u50 u51 u52 u53 u54 u55 u56 u57 u58 u59 u60 u61 u62 u63 u64 u65 u66 u67 u68 u69 u70 u71 u72 u73 u74 u75 u76 u77 u78 u79 u80 u81 u82 u83 u84 u85 u86 u87 u88 u89 u90 u91 u92 u93 u94 u95 u96 u97 u98 u99 u100 u101 u102 u103 u104 u105 u106 u107 u108 u109 u110 u111 u112 u113 u114 u115 u116 u117 u118 u119 u120 u121 u122 u123 u124 u125 u126 u127 u128 u129 u130 u131 u132 u133 u134 u135 u136 u137 u138 u139 u140 u141 w' R0 g3 g4 s p q z u x0 x1 x2 L M t A c lo (hn.below hb) (hsl.below (hb.mono hlo)) hd hz (leaf_check hck) ?_ ?_ (hax.below hb) (hay.below hb) hpq hL hM hx (Nat.le_trans hlo hb.size) hlp (fun w'' h => hret w'' ((hb.mono hlo).trans h))
   · exact (hb.block g4 (Array.getElem?_eq_some_iff.1 h4).1).trans h4
   · exact (hb.block s (Array.getElem?_eq_some_iff.1 hs).1).trans hs
 obtain ⟨CO,hCO⟩ : ∃ CO,CO = fromRegion 6 backC:=⟨_,rfl⟩
 rw [← hCO] at e1 hend
 clear hCO
 dsimp only at hend
 obtain ⟨NV,hNV⟩ : ∃ N,N = nodeA t.d A t.l.length c:=⟨_,rfl⟩
 have hG : Calls Try.prog 13 #[.agg NV] W fun e w' => e = .returned (.bool (greatB t)) ∧ Below W.heap.size W w':=by
   rw [hNV]; exact great_c t W W.heap.size A c hd hn.2 (Nat.le_refl _) hz
 have hC : ∀ wx,Below W.heap.size W wx → wx.heap[g3]? = some (.cells NV 44) ∧ Calls Try.prog 14 #[.agg NV] wx fun e w' => e = .returned (.int .i64 (checkI t)) ∧ Below wx.heap.size wx w':=fun wx h => by
   have hnx:=hn.below h
   rw [hNV]; exact ⟨hnx.1,rcheck_c t wx wx.heap.size A c hd hnx.2 (Nat.le_refl _) hz⟩
 have hkN : W.heap[g3]? = some (.cells NV 44):=by rw [hNV]; exact hn.1
 have hinf : (Try.prog.info? 44).map (·.size) = some NV.size:=by rw [hNV]; exact infN
 obtain ⟨ck,hck⟩ : ∃ k,k = checkI t:=⟨_,rfl⟩
 rw [← hck] at hC hend
 have HEND:=Lib.hid hend
 have HRET:=Lib.hid (fun w' (h : Below W.heap.size W w') => hret w' (h.mono hlo))
 have HG:=Lib.hid hG
 have HC:=Lib.hid hC
 have HIN:=Lib.hid hinf
 have HKN:=Lib.hid hkN
 clear hn hsl hd hz h4 hs hax hay hpq hL hM hx hlo hlp hret hend hG hC hinf hkN hNV hck
 rw [← e1]
 clear e1
 conv => arg 2; whnf; repeat (arg 2; whnf)
 cases eg : greatB t with
 | true =>
   rw [eg] at HG
   clear eg
   go_wp2_with (first | (refine wpList_row rfl 44 _ rfl g3 rfl 44 NV (0,0) _ HKN.out undN rfl HIN.out ?_) | (go_at_call 13; refine HG.out.mono ?_; rintro e w3 ⟨rfl,hb3⟩; have HB3:=Lib.hid hb3; clear hb3) | fail)
   exact HRET.out _ HB3.out
 | false =>
   rw [eg] at HG
   clear eg
   by_cases hc0 : ck = 0
   · subst hc0
     go_wp2_with (first | (refine wpList_row rfl 44 _ rfl g3 rfl 44 NV (0,0) _ HKN.out undN rfl HIN.out ?_) | (go_at_call 13; refine HG.out.mono ?_; rintro e w3 ⟨rfl,hb3⟩; have HB3:=Lib.hid hb3; clear hb3 HKN) | (refine wpList_row rfl 44 _ rfl g3 rfl 44 NV (0,0) _ (HC.out _ HB3.out).1 undN rfl HIN.out ?_) | (go_at_call 14; refine (HC.out _ HB3.out).2.mono ?_; rintro e w4 ⟨rfl,hb4⟩; have HB4:=Lib.hid (HB3.out.trans (hb4.mono HB3.out.size)); clear hb4) | fail)
     exact HEND.out trivial _ _ _ _ _ _ _ _ _ _ _ _ _ _ _ _ _ _ _ _ _ _ _ _ _ _ _ _ _ _ _ _ _ _ _ _ _ _ _ _ _ _ _ _ _ _ _ _ _ _ _ _ _ _ _ _ _ _ _ _ _ _ _ _ _ _ _ _ _ _ _ _ _ _ _ _ _ _ _ _ _ _ _ _ _ _ _ _ _ _ _ _ _ _ _ _ _ _ _ _ _ _ _ _ _ _ _ _ _ _ _ _ _ _ _ _ _ _ _ _ _ _ _ _ _ _ _ _ _ _ _ _ _ _ _ _ _ _ _ _ HB4.out
   · have hc1 : (ck == 0) = false:=by simpa using hc0
     clear HEND
     go_wp2_with (first | (refine wpList_row rfl 44 _ rfl g3 rfl 44 NV (0,0) _ HKN.out undN rfl HIN.out ?_) | (go_at_call 13; refine HG.out.mono ?_; rintro e w3 ⟨rfl,hb3⟩; have HB3:=Lib.hid hb3; clear hb3 HKN) | (refine wpList_row rfl 44 _ rfl g3 rfl 44 NV (0,0) _ (HC.out _ HB3.out).1 undN rfl HIN.out ?_) | (go_at_call 14; refine (HC.out _ HB3.out).2.mono ?_; rintro e w4 ⟨rfl,hb4⟩; have HB4:=Lib.hid (HB3.out.trans (hb4.mono HB3.out.size)); clear hb4) | fail)
     exact HRET.out _ HB4.out
end Go.Proofs.Ytbkmnboicihchaa
