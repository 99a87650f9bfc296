/- FillReads' region 6: Shift of one cell's node into a fresh variable. the reference's Place: where an id stands among live ones. FillReads' region 7: six places. -/
import Derived.Test.YtbkmnboicihchaaGd0M
import Derived.Test.YtbkmnboicihchaaIoIpSrQdQeQfRF
namespace Go.Proofs.Ytbkmnboicihchaa
set_option maxRecDepth 100000
set_option maxHeartbeats 8000000
set_option linter.unusedSimpArgs false
set_option linter.unusedVariables false
open Go Go.RowKit Go.Shelf Go.Maps
noncomputable def readsC : Code:=Try.f5.body.getD .skip
theorem rd_6_7 : fromRegion 7 (fromRegion 6 readsC) = fromRegion 7 readsC:=by kernel_rfl
theorem undCnR : Try.prog.underlying 39 = some (.struct (Try.prog.fieldsOf 39)):=by kernel_rfl
theorem infCnR : (Try.prog.info? 39).map (·.size) = some 6:=by kernel_rfl
def cornD (c : Cn) : ND:=⟨1,⟨0,0,0,⟨#[]⟩,false,0⟩,⟨#[]⟩,c,⟨0,0,0,0,false,false⟩,0⟩
theorem size_0 : (⟨#[]⟩ : ByteArray).size ≤ 9223372036854775807:=by decide
theorem i64_0 : i64 0:=by unfold i64; omega
theorem cornD_ok {c : Cn} (h : c.ok) : (cornD c).ok :=
 ⟨show i64 1 by unfold i64; omega,⟨i64_0,i64_0,i64_0,size_0,i64_0⟩,size_0,h,⟨i64_0,i64_0,i64_0,i64_0⟩,i64_0⟩
theorem fr6 (u0 u1 u2 u5 u6 u10 u11 u12 u13 u14 u15 u16 u17 u18 u19 u20 u21 u22 u23 u24 u25 u26 u27 u28 u29 u30 u31 u32 u33 u34 u35 u36 u37 u38 u39 u40 u41 u42 u43 u44 u45 u46 u47 u48 u49 u50 u51 u52 u53 u54 u55 u56 u57 u58 u59 u60 u61 u62 u63 u64 u65 u66 u67 u68 u69 u70 u71 u72 u73 u74 u75 u76 u77 u78 u79 u80 u81 u82 u83 u84 u85 u86 u87 u88 u89 u90 u91 u92 u93 u94 u95 u96 u97 u98 u99 u100 u101 u102 u103 u104 u105 u106 u107 u108 u109 u110 u111 u112 u113 u114 u115 u116 u117 u118 u119 u120 u121 u122 u123 u124 u125 u126 u127 u128 u129 u130 u131 u132 u133 u134 u135 u136 u137 u138 u139 u140 u141 u142 u143 u144 u145 u146 u147 u148 u149 u150 u151 u152 : Value) (V8 V9 : Value) (w : World) (R0 : Ending → World → Prop) (g3 g4 s p q : Nat) (z u : Value) (x0 x1 : Cl) (L M : IL) (cn : Cn)
   (hc : w.heap[g3]? = some (.cells cn.cells.toArray 39)) (h4 : w.heap[g4]? = some (.cells (x0.vals ++ x1.vals).toArray 77)) (hs : w.heap[s]? = some (.cells #[.pointer (some ⟨p,0,none⟩),.pointer (some ⟨q,0,none⟩),z,u] 72)) (hax : AxW w p L) (hay : AxW w q M) (hpq : p ≠ q) (hL : L.Ok) (hM : M.Ok) (hcn : cn.ok) (hx : (x0.row.ok ∧ x0.col.ok) ∧ (x1.row.ok ∧ x1.col.ok))
   (hk : ∀ (w' : World) (g11 : Nat) (A' : Option Addr) (c' : Nat) (u0 u1 u2 u5 u6 u10 u12 u13 u14 u15 u16 u17 u18 u19 u20 u21 u22 u23 u24 u25 u26 u27 u28 u29 u30 u31 u32 u33 u34 u35 u36 u37 u38 u39 u40 u41 u42 u43 u44 u45 u46 u47 u48 u49 u50 u51 u52 u53 u54 u55 u56 u57 u58 u59 u60 u61 u62 u63 u64 u65 u66 u67 u68 u69 u70 u71 u72 u73 u74 u75 u76 u77 u78 u79 u80 u81 u82 u83 u84 u85 u86 u87 u88 u89 u90 u91 u92 u93 u94 u95 u96 u97 u98 u99 u100 u101 u102 u103 u104 u105 u106 u107 u108 u109 u110 u111 u112 u113 u114 u115 u116 u117 u118 u119 u120 u121 u122 u123 u124 u125 u126 u127 u128 u129 u130 u131 u132 u133 u134 u135 u136 u137 u138 u139 u140 u141 u142 u143 u144 u145 u146 u147 u148 u149 u150 u151 u152 : Value),KeepZ (fun b => b = p ∨ b = q) w w' → w.heap.size ≤ g11 → w'.heap[g11]? = some (.cells (nodeA (shiftT L.alive M.alive x0 x1 (.mk (cornD cn) [])).d A' (shiftT L.alive M.alive x0 x1 (.mk (cornD cn) [])).l.length c') 44) → (fromRegion 7 readsC).wp Try.prog (bodyPost Try.prog Try.f5 R0) ⟨#[u0,u1,u2,.pointer (some ⟨g3,0,none⟩),.pointer (some ⟨g4,0,none⟩),u5,u6,.pointer (some ⟨s,0,none⟩),V8,V9,u10,.pointer (some ⟨g11,0,none⟩),u12,u13,u14,u15,u16,u17,u18,u19,u20,u21,u22,u23,u24,u25,u26,u27,u28,u29,u30,u31,u32,u33,u34,u35,u36,u37,u38,u39,u40,u41,u42,u43,u44,u45,u46,u47,u48,u49,u50,u51,u52,u53,u54,u55,u56,u57,u58,u59,u60,u61,u62,u63,u64,u65,u66,u67,u68,u69,u70,u71,u72,u73,u74,u75,u76,u77,u78,u79,u80,u81,u82,u83,u84,u85,u86,u87,u88,u89,u90,u91,u92,u93,u94,u95,u96,u97,u98,u99,u100,u101,u102,u103,u104,u105,u106,u107,u108,u109,u110,u111,u112,u113,u114,u115,u116,u117,u118,u119,u120,u121,u122,u123,u124,u125,u126,u127,u128,u129,u130,u131,u132,u133,u134,u135,u136,u137,u138,u139,u140,u141,u142,u143,u144,u145,u146,u147,u148,u149,u150,u151,u152],[]⟩ w') :
   (fromRegion 6 readsC).wp Try.prog (bodyPost Try.prog Try.f5 R0) ⟨#[u0,u1,u2,.pointer (some ⟨g3,0,none⟩),.pointer (some ⟨g4,0,none⟩),u5,u6,.pointer (some ⟨s,0,none⟩),V8,V9,u10,u11,u12,u13,u14,u15,u16,u17,u18,u19,u20,u21,u22,u23,u24,u25,u26,u27,u28,u29,u30,u31,u32,u33,u34,u35,u36,u37,u38,u39,u40,u41,u42,u43,u44,u45,u46,u47,u48,u49,u50,u51,u52,u53,u54,u55,u56,u57,u58,u59,u60,u61,u62,u63,u64,u65,u66,u67,u68,u69,u70,u71,u72,u73,u74,u75,u76,u77,u78,u79,u80,u81,u82,u83,u84,u85,u86,u87,u88,u89,u90,u91,u92,u93,u94,u95,u96,u97,u98,u99,u100,u101,u102,u103,u104,u105,u106,u107,u108,u109,u110,u111,u112,u113,u114,u115,u116,u117,u118,u119,u120,u121,u122,u123,u124,u125,u126,u127,u128,u129,u130,u131,u132,u133,u134,u135,u136,u137,u138,u139,u140,u141,u142,u143,u144,u145,u146,u147,u148,u149,u150,u151,u152],[]⟩ w:=by
 dsimp only
 have e1:=cut_from 7 (fromRegion 6 readsC)
 rw [rd_6_7] at e1
 obtain ⟨CO,hCO⟩ : ∃ CO,CO = fromRegion 7 readsC:=⟨_,rfl⟩
 rw [← hCO] at e1 hk
 clear hCO
 dsimp only at hk
 obtain ⟨r,hr⟩ : ∃ r,r = shiftT L.alive M.alive x0 x1 (.mk (cornD cn) []):=⟨_,rfl⟩
 rw [← hr] at hk
 obtain ⟨X,hX⟩ : ∃ l,l = x0.vals:=⟨_,rfl⟩
 obtain ⟨Y,hY⟩ : ∃ l,l = x1.vals:=⟨_,rfl⟩
 obtain ⟨csp,hcp⟩:=hax.own
 obtain ⟨csq,hcq⟩:=hay.own
 have hne : ∀ {b : Nat} {cs : Array Value} {ty : TypeId},w.heap[b]? = some (.cells cs ty) → ty ≠ 110 → ¬ (b = p ∨ b = q):=fun h1 h2 h3 => by
   rcases h3 with rfl | rfl
   · rw [h1] at hcp; cases hcp; exact h2 rfl
   · rw [h1] at hcq; cases hcq; exact h2 rfl
 have hkb : ∀ (wz : World) {b : Nat} {cs : Array Value} {ty : TypeId},KeepZ (fun b => b = p ∨ b = q) w wz → w.heap[b]? = some (.cells cs ty) → ty ≠ 110 → wz.heap[b]? = some (.cells cs ty):=fun wz _ _ _ hk1 h1 h2 => (hk1.block _ (Array.getElem?_eq_some_iff.1 h1).1 (hne h1 h2)).trans h1
 have HTR : ∀ wz,KeepZ (fun b => b = p ∨ b = q) w wz → wz.rangeAt g3 0 cn.cells ∧ wz.rangeAt g4 0 X ∧ wz.rangeAt g4 4 Y ∧ wz.cell? ⟨s,0,none⟩ = some (.pointer (some ⟨p,0,none⟩)) ∧ wz.cell? ⟨s,1,none⟩ = some (.pointer (some ⟨q,0,none⟩)):=fun wz hS => by
   rw [hX,hY]
   have hs':=hkb wz hS hs (by decide)
   have h4':=two_cells (hkb wz hS h4 (by decide))
   exact ⟨row_rangeC (hkb wz hS hc (by decide)),h4'.1,h4'.2,cell_of_row _ _ 0 _ _ _ hs',cell_of_row _ _ 1 _ _ _ hs'⟩
 have hpl : p < w.heap.size ∧ q < w.heap.size:=⟨hax.lt,hay.lt⟩
 have HSH : ∀ wz,Below w.heap.size w wz → Calls Try.prog 16 #[.agg (nodeA (cornD cn) none 0 0),.agg X.toArray,.agg Y.toArray,.pointer (some ⟨p,0,none⟩),.pointer (some ⟨q,0,none⟩)] wz (ShiftPost p q L M wz r):=fun wz hS => by
   rw [hX,hY,hr]
   exact shiftW_c (hax.below hS) (hay.below hS) (fun e => absurd e hpq) hL hM (.mk (cornD cn) []) none 0 (cornD_ok hcn) ⟨by simp [Tr.l],by omega,.inl rfl⟩ (by simp [Tr.size,Tr.sizes]) x0 x1 hx.1 hx.2
 have hlx : (Try.prog.info? 33).map (·.size) = some X.length:=by rw [hX]; exact infC4 _ _ _ _
 have hly : (Try.prog.info? 33).map (·.size) = some Y.length:=by rw [hY]; exact infC4 _ _ _ _
 have HK:=Lib.hid hk
 have HTR:=Lib.hid HTR
 have HSH:=Lib.hid HSH
 have HLX:=Lib.hid hlx
 have HLY:=Lib.hid hly
 have HPL:=Lib.hid hpl
 have HC4:=Lib.hid undC4
 have HUC:=Lib.hid undCnR
 have HIC : Hid ((Try.prog.info? 39).map (·.size) = some cn.cells.length):=Lib.hid infCnR
 have HNN : Hid (∀ (A : Option Addr) (c : Nat),(nodeA r.d A r.l.length c).size = 22 ∧ (nodeA r.d A r.l.length c).all (·.oneCell') = true):=Lib.hid (fun _ _ => ⟨rfl,node_one _ _ _ _⟩)
 have HIF:=Lib.hid infN
 obtain ⟨Z0,hZ0⟩ : ∃ Z0,Z0 = nodeA ⟨0,⟨0,0,0,ByteArray.mk #[],false,0⟩,ByteArray.mk #[],⟨0,0,0,0,false,false⟩,⟨0,0,0,0,false,false⟩,0⟩ none 0 0:=⟨_,rfl⟩
 have HZ0:=Lib.hid hZ0
 have HZS : Hid (Z0.size = 22):=Lib.hid (by rw [hZ0]; rfl)
 clear hc h4 hs hax hay hpq hL hM hcn hx hk hX hY hr hlx hly hZ0 hcp hcq hne hkb hpl
 obtain ⟨ra,rn,ca,cc,fr,fc⟩:=cn
 rw [← e1]
 clear e1
 conv => arg 2; whnf; repeat (arg 2; whnf)
 go_upto_region 6 with (fail)
 refine wp_region_held_drew (S:=fun wz => KeepZ (fun b => b = p ∨ b = q) w wz) (by kernel_rfl) (KeepZ.of (Below.refl _ w).drew) (fun hHeld => ?_)
 refine wpAnyH_take (i:=0) (v:=.agg (Cn.cells ⟨ra,rn,ca,cc,fr,fc⟩).toArray) rfl (by kernel_rfl) (by kernel_rfl) (by kernel_rfl) (fun _ _ _ h => h) (yieldsIf_load_mid (by kernel_rfl) 39 _ rfl g3 0 rfl (Cn.cells ⟨ra,rn,ca,cc,fr,fc⟩) _ (fun _ hS => (HTR.out _ hS).1) HUC.out rfl HIC.out) hHeld ?_
 try simp only [sX]
 refine wpAnyH_take (i:=1) (v:=.agg #[.int .i64 ra,.int .i64 rn,.int .i64 ca,.int .i64 cc,.bool fr,.bool fc,.int .i64 0,.int .i64 0,.int .i64 0,.int .i64 0,.bool false,.bool false]) rfl (by kernel_rfl) (by kernel_rfl) (by kernel_rfl) (fun _ _ _ h => h) (Or.inl ⟨by kernel_rfl,fun _ hS => by kernel_rfl⟩) hHeld ?_
 try simp only [sX]
 refine wpAnyH_take (i:=2) (v:=.agg (nodeA (cornD ⟨ra,rn,ca,cc,fr,fc⟩) none 0 0)) rfl (by kernel_rfl) (by kernel_rfl) (by kernel_rfl) (fun _ _ _ h => h) (Or.inl ⟨by kernel_rfl,fun _ hS => by kernel_rfl⟩) hHeld ?_
 try simp only [sX]
 refine wpAnyH_take (i:=3) (v:=.pointer (some ⟨g4,0,none⟩)) rfl (by kernel_rfl) (by kernel_rfl) (by kernel_rfl) (fun _ _ _ h => h) (Or.inl ⟨by kernel_rfl,fun _ hS => by kernel_rfl⟩) hHeld ?_
 try simp only [sX]
 refine wpAnyH_take (i:=4) (v:=.agg X.toArray) rfl (by kernel_rfl) (by kernel_rfl) (by kernel_rfl) (fun _ _ _ h => h) (yieldsIf_load_mid (by kernel_rfl) 33 _ rfl g4 0 rfl X _ (fun _ hS => (HTR.out _ hS).2.1) HC4.out rfl HLX.out) hHeld ?_
 try simp only [sX]
 refine wpAnyH_take (i:=5) (v:=.pointer (some ⟨g4,4,none⟩)) rfl (by kernel_rfl) (by kernel_rfl) (by kernel_rfl) (fun _ _ _ h => h) (Or.inl ⟨by kernel_rfl,fun _ hS => by kernel_rfl⟩) hHeld ?_
 try simp only [sX]
 refine wpAnyH_take (i:=6) (v:=.agg Y.toArray) rfl (by kernel_rfl) (by kernel_rfl) (by kernel_rfl) (fun _ _ _ h => h) (yieldsIf_load_mid (by kernel_rfl) 33 _ rfl g4 4 rfl Y _ (fun _ hS => (HTR.out _ hS).2.2.1) HC4.out rfl HLY.out) hHeld ?_
 try simp only [sX]
 refine wpAnyH_take (i:=7) (v:=.pointer (some ⟨s,0,none⟩)) rfl (by kernel_rfl) (by kernel_rfl) (by kernel_rfl) (fun _ _ _ h => h) (Or.inl ⟨by kernel_rfl,fun _ hS => by kernel_rfl⟩) hHeld ?_
 try simp only [sX]
 refine wpAnyH_take (i:=8) (v:=.pointer (some ⟨s,0,none⟩)) rfl (by kernel_rfl) (by kernel_rfl) (by kernel_rfl) (fun _ _ _ h => h) (Or.inl ⟨by kernel_rfl,fun _ hS => by kernel_rfl⟩) hHeld ?_
 try simp only [sX]
 refine wpAnyH_take (i:=9) (v:=.pointer (some ⟨s,0,none⟩)) rfl (by kernel_rfl) (by kernel_rfl) (by kernel_rfl) (fun _ _ _ h => h) (Or.inl ⟨by kernel_rfl,fun _ hS => by kernel_rfl⟩) hHeld ?_
 try simp only [sX]
 refine wpAnyH_take (i:=10) (v:=.pointer (some ⟨p,0,none⟩)) rfl (by kernel_rfl) (by kernel_rfl) (by kernel_rfl) (fun _ _ _ h => h) (Or.inl ⟨by kernel_rfl,fun _ hS => ldSh_run _ rfl ⟨s,0,none⟩ rfl _ (HTR.out _ hS).2.2.2.1⟩) hHeld ?_
 try simp only [sX]
 refine wpAnyH_take (i:=11) (v:=.pointer (some ⟨s,0,none⟩)) rfl (by kernel_rfl) (by kernel_rfl) (by kernel_rfl) (fun _ _ _ h => h) (Or.inl ⟨by kernel_rfl,fun _ hS => by kernel_rfl⟩) hHeld ?_
 try simp only [sX]
 refine wpAnyH_take (i:=12) (v:=.pointer (some ⟨s,0,none⟩)) rfl (by kernel_rfl) (by kernel_rfl) (by kernel_rfl) (fun _ _ _ h => h) (Or.inl ⟨by kernel_rfl,fun _ hS => by kernel_rfl⟩) hHeld ?_
 try simp only [sX]
 refine wpAnyH_take (i:=13) (v:=.pointer (some ⟨s,1,none⟩)) rfl (by kernel_rfl) (by kernel_rfl) (by kernel_rfl) (fun _ _ _ h => h) (Or.inl ⟨by kernel_rfl,fun _ hS => by kernel_rfl⟩) hHeld ?_
 try simp only [sX]
 refine wpAnyH_take (i:=14) (v:=.pointer (some ⟨q,0,none⟩)) rfl (by kernel_rfl) (by kernel_rfl) (by kernel_rfl) (fun _ _ _ h => h) (Or.inl ⟨by kernel_rfl,fun _ hS => ldSh_run _ rfl ⟨s,1,none⟩ rfl _ (HTR.out _ hS).2.2.2.2⟩) hHeld ?_
 try simp only [sX]
 have hbel : Below w.heap.size w w.drew:=(Below.refl _ w).drew
 obtain ⟨wa,hwa⟩ : ∃ wa,wa = w.drew:=⟨_,rfl⟩
 rw [← hwa] at hHeld hbel ⊢
 clear hwa
 refine wpAnyH_ready (rs:=[15,16]) (by kernel_rfl) (by simp) ?_
 refine (AllReadyH.cons rfl (fun K hK => ?_) (AllReadyH.cons rfl (fun K hK => ?_) AllReadyH.nil))
 · skip
   go_simp
   refine (HSH.out wa hbel).mono ?_
   rintro e wb ⟨A5,c5,rfl,-,-,-,-,hkq⟩
   obtain ⟨N5,hN5⟩ : ∃ N5,N5 = nodeA r.d A5 r.l.length c5:=⟨_,rfl⟩
   rw [nodeV,← hN5]
   have HN5:=Lib.hid hN5
   clear hN5
   try go_simp
   have hnew:=hHeld.trans hkq.z
   refine hK.out _ _ hnew (fun hHeld1 => ?_)
   clear hK K hHeld
   have hHeld:=hHeld1
   clear hHeld1 hnew
   try simp only [sX]
   clear hkq
   refine wpAnyH_ready (rs:=[16]) (by kernel_rfl) (by simp) ?_
   refine (AllReadyH.cons rfl (fun K hK => ?_) AllReadyH.nil)
   rw [if_pos (wanted_none rfl)]
   refine wp_runF (v:=.pointer (some ⟨wb.heap.size,0,none⟩)) (w':=wb.alloc (.cells Z0 44)) (by rw [HZ0.out]; kernel_rfl) ?_
   obtain ⟨wc,hwo⟩ : ∃ x,x = wb.alloc (.cells Z0 44):=⟨_,rfl⟩
   obtain ⟨gz,hgz⟩ : ∃ x,x = wb.heap.size:=⟨_,rfl⟩
   have hbn : Below wb.heap.size wb wc:=by rw [hwo]; exact (Below.refl _ wb).alloc (Nat.le_refl _) _
   have hz : wc.heap[gz]? = some (.cells Z0 44):=by rw [hwo,hgz]; exact heap_alloc_new _ _
   rw [← hwo,← hgz]
   have hgl : w.heap.size ≤ gz:=by rw [hgz]; exact hHeld.size
   have hnew:=hHeld.trans (KeepZ.of hbn)
   refine hK.out _ _ hnew (fun hHeld1 => ?_)
   clear hK K hHeld
   have hHeld:=hHeld1
   clear hHeld1 hnew
   try simp only [sX]
   clear hbn hwo hgz
   refine wpAnyH_ready (rs:=[17]) (by kernel_rfl) (by simp) ?_
   refine (AllReadyH.cons rfl (fun K hK => ?_) AllReadyH.nil)
   have HS5 : Hid (N5.size = 22 ∧ N5.all (·.oneCell') = true):=Lib.hid (by rw [HN5.out]; exact HNN.out _ _)
   have HI5 : Hid ((Try.prog.info? 44).map (·.size) = some N5.size):=Lib.hid (by rw [HS5.out.1]; exact HIF.out)
   have HZ5 : Hid (Z0.size = N5.size):=Lib.hid (by rw [HZS.out,HS5.out.1])
   rw [if_pos (wanted_none rfl)]
   refine wp_store_row 44 _ _ rfl gz N5 rfl rfl 44 Z0 hz HI5.out HZ5.out HS5.out.2 ?_
   have hr5:=setRow_heap wc gz Z0 N5 44 (0,0) hz
   have hnew:=hHeld.row hgl N5
   obtain ⟨wf,hwf⟩ : ∃ x,x = wc.setRow gz N5:=⟨_,rfl⟩
   rw [← hwf] at hr5 hnew ⊢
   clear hwf
   refine hK.out _ _ hnew (fun hHeld1 => ?_)
   clear hK K hHeld
   have hHeld:=hHeld1
   clear hHeld1 hnew
   try simp only [sX]
   rw [HN5.out] at hr5
   have HE:=Lib.hid (And.intro hHeld (And.intro hgl hr5))
   clear hr5 hz hgl
   refine wpAnyH_done (by kernel_rfl) ?_ _
   clear hHeld
   go_wp2_with fail
   exact HK.out _ gz A5 c5 _ _ _ _ _ _ _ _ _ _ _ _ _ _ _ _ _ _ _ _ _ _ _ _ _ _ _ _ _ _ _ _ _ _ _ _ _ _ _ _ _ _ _ _ _ _ _ _ _ _ _ _ _ _ _ _ _ _ _ _ _ _ _ _ _ _ _ _ _ _ _ _ _ _ _ _ _ _ _ _ _ _ _ _ _ _ _ _ _ _ _ _ _ _ _ _ _ _ _ _ _ _ _ _ _ _ _ _ _ _ _ _ _ _ _ _ _ _ _ _ _ _ _ _ _ _ _ _ _ _ _ _ _ _ _ _ _ _ _ _ _ _ _ _ _ _ _ HE.out.1 HE.out.2.1 HE.out.2.2
 · skip
   rw [if_pos (wanted_none rfl)]
   refine wp_runF (v:=.pointer (some ⟨wa.heap.size,0,none⟩)) (w':=wa.alloc (.cells Z0 44)) (by rw [HZ0.out]; kernel_rfl) ?_
   obtain ⟨wb,hwo⟩ : ∃ x,x = wa.alloc (.cells Z0 44):=⟨_,rfl⟩
   obtain ⟨gz,hgz⟩ : ∃ x,x = wa.heap.size:=⟨_,rfl⟩
   have hbn : Below wa.heap.size wa wb:=by rw [hwo]; exact (Below.refl _ wa).alloc (Nat.le_refl _) _
   have hz : wb.heap[gz]? = some (.cells Z0 44):=by rw [hwo,hgz]; exact heap_alloc_new _ _
   rw [← hwo,← hgz]
   have hgl : w.heap.size ≤ gz:=by rw [hgz]; exact hHeld.size
   have hnew:=hHeld.trans (KeepZ.of hbn)
   have hbel:=hbel.trans (hbn.mono hbel.size)
   refine hK.out _ _ hnew (fun hHeld1 => ?_)
   clear hK K hHeld
   have hHeld:=hHeld1
   clear hHeld1 hnew
   try simp only [sX]
   clear hbn hwo hgz
   refine wpAnyH_ready (rs:=[15]) (by kernel_rfl) (by simp) ?_
   refine (AllReadyH.cons rfl (fun K hK => ?_) AllReadyH.nil)
   go_simp
   refine (HSH.out wb hbel).mono ?_
   rintro e wc ⟨A5,c5,rfl,-,-,-,-,hkq⟩
   obtain ⟨N5,hN5⟩ : ∃ N5,N5 = nodeA r.d A5 r.l.length c5:=⟨_,rfl⟩
   rw [nodeV,← hN5]
   have HN5:=Lib.hid hN5
   clear hN5
   try go_simp
   have hnew:=hHeld.trans hkq.z
   have hz:=(hkq.block gz (Array.getElem?_eq_some_iff.1 hz).1 (by have:=HPL.out.1; omega) (by have:=HPL.out.2; omega)).trans hz
   refine hK.out _ _ hnew (fun hHeld1 => ?_)
   clear hK K hHeld
   have hHeld:=hHeld1
   clear hHeld1 hnew
   try simp only [sX]
   clear hkq
   refine wpAnyH_ready (rs:=[17]) (by kernel_rfl) (by simp) ?_
   refine (AllReadyH.cons rfl (fun K hK => ?_) AllReadyH.nil)
   have HS5 : Hid (N5.size = 22 ∧ N5.all (·.oneCell') = true):=Lib.hid (by rw [HN5.out]; exact HNN.out _ _)
   have HI5 : Hid ((Try.prog.info? 44).map (·.size) = some N5.size):=Lib.hid (by rw [HS5.out.1]; exact HIF.out)
   have HZ5 : Hid (Z0.size = N5.size):=Lib.hid (by rw [HZS.out,HS5.out.1])
   rw [if_pos (wanted_none rfl)]
   refine wp_store_row 44 _ _ rfl gz N5 rfl rfl 44 Z0 hz HI5.out HZ5.out HS5.out.2 ?_
   have hr5:=setRow_heap wc gz Z0 N5 44 (0,0) hz
   have hnew:=hHeld.row hgl N5
   obtain ⟨wf,hwf⟩ : ∃ x,x = wc.setRow gz N5:=⟨_,rfl⟩
   rw [← hwf] at hr5 hnew ⊢
   clear hwf
   refine hK.out _ _ hnew (fun hHeld1 => ?_)
   clear hK K hHeld
   have hHeld:=hHeld1
   clear hHeld1 hnew
   try simp only [sX]
   rw [HN5.out] at hr5
   have HE:=Lib.hid (And.intro hHeld (And.intro hgl hr5))
   clear hr5 hz hgl
   refine wpAnyH_done (by kernel_rfl) ?_ _
   clear hHeld
   go_wp2_with fail
   exact HK.out _ gz A5 c5 _ _ _ _ _ _ _ _ _ _ _ _ _ _ _ _ _ _ _ _ _ _ _ _ _ _ _ _ _ _ _ _ _ _ _ _ _ _ _ _ _ _ _ _ _ _ _ _ _ _ _ _ _ _ _ _ _ _ _ _ _ _ _ _ _ _ _ _ _ _ _ _ _ _ _ _ _ _ _ _ _ _ _ _ _ _ _ _ _ _ _ _ _ _ _ _ _ _ _ _ _ _ _ _ _ _ _ _ _ _ _ _ _ _ _ _ _ _ _ _ _ _ _ _ _ _ _ _ _ _ _ _ _ _ _ _ _ _ _ _ _ _ _ _ _ _ _ HE.out.1 HE.out.2.1 HE.out.2.2
end Go.Proofs.Ytbkmnboicihchaa
namespace Go.Proofs.Ytbkmnboicihchaa
set_option maxRecDepth 100000
set_option maxHeartbeats 2000000
set_option linter.unusedSimpArgs false
set_option linter.unusedVariables false
open Go Go.RowKit Go.Shelf Go.Maps
theorem rplace_c {w : World} {base : Nat} {A : Option Addr} {c : Nat} {l : List Ik} (h : w.ownsRow base 31 2 (.slice A l.length c) l.length (ikCells l)) (hl : l.length ≤ 100000) (x : Ik) :
   Calls Try.prog 19 #[.slice A l.length c,.agg #[.int .i64 x.a,.int .i64 x.n]] w fun e w' => e = .returned (.int .i64 (posZ l x)) ∧ Below w.heap.size w w':=by
 obtain ⟨g,hg⟩ : ∃ g,g = w.heap.size:=⟨_,rfl⟩
 obtain ⟨W,hW⟩ : ∃ W,W = w.alloc (.cells #[.int .i64 x.a,.int .i64 x.n] 31):=⟨_,rfl⟩
 have hb : Below w.heap.size w W:=by rw [hW]; exact (Below.refl _ w).alloc (Nat.le_refl _) _
 have hk : W.heap[g]? = some (.cells #[.int .i64 x.a,.int .i64 x.n] 31):=by rw [hW,hg]; exact heap_alloc_new _ _
 obtain ⟨n,hn⟩ : ∃ n,n = l.length:=⟨_,rfl⟩
 have hcap : n ≤ c ∧ c ≤ 9223372036854775807:=by obtain ⟨_,_,e,h1,h2⟩:=own_parts h; cases e; rw [hn]; exact ⟨h1,h2⟩
 obtain ⟨hc1,hc2⟩:=hcap
 have hrow : ∀ (wx : World) (d : Below W.heap.size W wx) (j : Nat) (hj : j < l.length),∃ q,A = some ⟨q,0,none⟩ ∧ wx.rangeAt q (j * 2) [.int .i64 l[j].a,.int .i64 l[j].n]:=fun wx d j hj => by
   obtain ⟨q,h1,h2⟩:=ik_row_at h hj
   obtain ⟨-,cur,h3⟩:=own_blk h q (by rw [h1]; rfl)
   have hq:=(Array.getElem?_eq_some_iff.1 h3).1
   rw [Nat.zero_add] at h2
   exact ⟨q,h1,fun i v hv => (World.cell?_of_block (a:=⟨q,j * 2 + i,none⟩) ((d.block q (Nat.lt_of_lt_of_le hq hb.size)).trans (hb.block q hq))).trans (h2 i v hv)⟩
 have HROW:=Lib.hid hrow
 have HX:=Lib.hid (fun (wx : World) (d : Below W.heap.size W wx) => show wx.rangeAt g 0 [.int .i64 x.a,.int .i64 x.n] from row_rangeF ((d.block g (Array.getElem?_eq_some_iff.1 hk).1).trans hk))
 have HIL:=Lib.hid (show ∀ a b : Value,(Try.prog.info? 31).map (·.size) = some [a,b].length from fun _ _ => infIk)
 have HG:=Lib.hid hg
 have HW:=Lib.hid hW
 have HB:=Lib.hid hb
 have HN:=Lib.hid hn
 have hn2 : n ≤ 100000:=by rw [hn]; exact hl
 rw [← hn]
 clear h hl hg hW hb hk hrow hn
 obtain ⟨xa,xn⟩:=x
 dsimp only at HX ⊢
 have HPA:=Lib.hid (fun (j : Nat) (hj : j < l.length) h1 h2 => posZ_at (l:=l) (x:=⟨xa,xn⟩) (j:=j) hj h1 h2)
 have HPN:=Lib.hid (fun h1 => posZ_none (l:=l) (x:=⟨xa,xn⟩) h1)
 go_enter Try.func19,Try.ntmps19
 go_upto_region 1 with (fail)
 rw [← HW.out,← HG.out]
 go_wp2
 go_loopw [5] (fun i wr => ∃ j : Nat,j ≤ n ∧ i = .int .i64 j ∧ Hid ((∀ i (h : i < l.length),i < j → l[i] ≠ ⟨xa,xn⟩) ∧ Below W.heap.size W wr)) (fun i _ => n - (intOf i).toNat)
 case atStart => exact ⟨0,Nat.zero_le _,rfl,Lib.hid ⟨fun i _ h => by omega,Below.refl _ _⟩⟩
 case round =>
   obtain ⟨j,hj,rfl,hR⟩:=hrel
   by_cases hlt : j < n
   · have hjl : j < l.length:=by rw [← HN.out]; exact hlt
     obtain ⟨q,hA,hrg⟩:=HROW.out wr hR.out.2 j hjl
     subst hA
     have hj1 : (j : Int) < n:=by omega
     have hj0 : (0 : Int) ≤ j:=by omega
     obtain ⟨ya,hya⟩ : ∃ y,y = l[j].a:=⟨_,rfl⟩
     obtain ⟨yn,hyn⟩ : ∃ y,y = l[j].n:=⟨_,rfl⟩
     rw [← hya,← hyn] at hrg
     have HY:=Lib.hid (And.intro hya hyn)
     have hze:=fun w => eqI w ya yn xa xn
     have HRG:=Lib.hid hrg
     clear hya hyn hrg
     go_wp2
     refine wp_region_still_tail 5 (by kernel_rfl) (by kernel_rfl) ?_
     simp only [List.take_succ_cons,List.take_zero,List.drop_succ_cons,List.drop_zero]
     iterate 3 still_step
     refine still_mid rfl 31 _ rfl q (j * 2) rfl [.int .i64 ya,.int .i64 yn] _ HRG.out ikUnd rfl (HIL.out _ _) ?_
     (try simp only [Act.put,List.setIfInBounds_toArray,List.set_cons_zero,List.set_cons_succ])
     refine still_mid rfl 31 _ rfl g 0 rfl [.int .i64 xa,.int .i64 xn] _ (HX.out wr hR.out.2) ikUnd rfl (HIL.out _ _) ?_
     (try simp only [Act.put,List.setIfInBounds_toArray,List.set_cons_zero,List.set_cons_succ])
     refine wpStill_nil ?_
     by_cases he : ya = xa ∧ yn = xn
     · rw [decide_eq_true he] at hze
       go_wp2
       first | go_ret | go_ret2
       have hb:=HB.out
       refine ⟨?_,hb.trans ((hR.out.2.drew).mono hb.size)⟩
       rw [HPA.out j hjl hR.out.1 (by
         obtain ⟨h1,h2⟩:=HY.out
         obtain ⟨e1,e2⟩:=he
         have : l[j] = ⟨l[j].a,l[j].n⟩:=rfl
         rw [this,← h1,← h2,e1,e2])]
       rfl
     · rw [decide_eq_false he] at hze
       have HNE:=Lib.hid he
       clear he
       go_wp2
       go_roundw
       case measure => simp [intOf]; omega
       case rel =>
         refine ⟨j + 1,by omega,by go_num,Lib.hid ⟨fun i hi hij => ?_,hR.out.2.drew⟩⟩
         by_cases e : i = j
         · subst e
           intro e2
           refine HNE.out ?_
           obtain ⟨h1,h2⟩:=HY.out
           rw [h1,h2,e2]
           exact ⟨rfl,rfl⟩
         · exact hR.out.1 i hi (by omega)
   · obtain rfl : j = n:=by omega
     go_wp2
     first | go_ret | go_ret2
     have hb:=HB.out
     refine ⟨?_,hb.trans (hR.out.2.mono hb.size)⟩
     rw [HPN.out (fun i h => hR.out.1 i h (by rw [HN.out]; exact h))]
     rfl
end Go.Proofs.Ytbkmnboicihchaa
namespace Go.Proofs.Ytbkmnboicihchaa
set_option maxRecDepth 100000
set_option maxHeartbeats 8000000
set_option linter.unusedSimpArgs false
set_option linter.unusedVariables false
open Go Go.RowKit Go.Shelf Go.Maps
theorem rd_7_8 : fromRegion 8 (fromRegion 7 readsC) = fromRegion 8 readsC:=by kernel_rfl
theorem own_blk_keep {w w' : World} {base : Nat} {e : TypeId} {size : Nat} {v : Value} {n : Nat} {xs : List Value} (h : w.ownsRow base e size v n xs) (hb : Below w.heap.size w w') : w'.ownsRow base e size v n xs :=
 own_keep h (fun k hk => by
   obtain ⟨-,cur,hg⟩:=own_blk h k hk
   exact hb.block k (Array.getElem?_eq_some_iff.1 hg).1)
theorem fr7 (u0 u1 u2 u5 u6 u10 u12 u13 u14 u15 u16 u17 u18 u19 u20 u21 u22 u23 u24 u25 u26 u27 u28 u29 u30 u31 u32 u33 u34 u35 u36 u37 u38 u39 u40 u41 u42 u43 u44 u45 u46 u47 u48 u49 u50 u51 u52 u53 u54 u55 u56 u57 u58 u59 u60 u61 u62 u63 u64 u65 u66 u67 u68 u69 u70 u71 u72 u73 u74 u75 u76 u77 u78 u79 u80 u81 u82 u83 u84 u85 u86 u87 u88 u89 u90 u91 u92 u93 u94 u95 u96 u97 u98 u99 u100 u101 u102 u103 u104 u105 u106 u107 u108 u109 u110 u111 u112 u113 u114 u115 u116 u117 u118 u119 u120 u121 u122 u123 u124 u125 u126 u127 u128 u129 u130 u131 u132 u133 u134 u135 u136 u137 u138 u139 u140 u141 u142 u143 u144 u145 u146 u147 u148 u149 u150 u151 u152 : Value) (W : World) (R0 : Ending → World → Prop) (g3 g4 g11 s lo : Nat) (x0 x1 : Cl) (cn : Cn) (R K : List Ik) (A1 A2 : Option Addr) (c1 c2 : Nat)
   (hc : W.heap[g3]? = some (.cells cn.cells.toArray 39)) (h4 : W.heap[g4]? = some (.cells (x0.vals ++ x1.vals).toArray 77)) (hR : W.ownsRow lo 31 2 (.slice A1 R.length c1) R.length (ikCells R)) (hK : W.ownsRow lo 31 2 (.slice A2 K.length c2) K.length (ikCells K)) (hRl : R.length ≤ 1000) (hKl : K.length ≤ 1000)
   (hk : ∀ (w' : World) (g12 : Nat) (u0 u1 u2 u5 u6 u10 u13 u14 u15 u16 u17 u18 u19 u20 u21 u22 u23 u24 u25 u26 u27 u28 u29 u30 u31 u32 u33 u34 u35 u36 u37 u38 u39 u40 u41 u42 u43 u44 u45 u46 u47 u48 u49 u50 u51 u52 u53 u54 u55 u56 u57 u58 u59 u60 u61 u62 u63 u64 u65 u66 u67 u68 u69 u70 u71 u72 u73 u74 u75 u76 u77 u78 u79 u80 u81 u82 u83 u84 u85 u86 u87 u88 u89 u90 u91 u92 u93 u94 u95 u96 u97 u98 u99 u100 u101 u102 u103 u104 u105 u106 u107 u108 u109 u110 u111 u112 u113 u114 u115 u116 u117 u118 u119 u120 u121 u122 u123 u124 u125 u126 u127 u128 u129 u130 u131 u132 u133 u134 u135 u136 u137 u138 u139 u140 u141 u142 u143 u144 u145 u146 u147 u148 u149 u150 u151 u152 : Value),Below W.heap.size W w' → w'.heap[g12]? = some (.cells #[.int .i64 (posZ R cn.row'),.int .i64 (posZ K cn.col'),.int .i64 (posZ R x0.row),.int .i64 (posZ K x0.col),.int .i64 (posZ R x1.row),.int .i64 (posZ K x1.col)] 79) → (fromRegion 8 readsC).wp Try.prog (bodyPost Try.prog Try.f5 R0) ⟨#[u0,u1,u2,.pointer (some ⟨g3,0,none⟩),.pointer (some ⟨g4,0,none⟩),u5,u6,.pointer (some ⟨s,0,none⟩),.slice A1 R.length c1,.slice A2 K.length c2,u10,.pointer (some ⟨g11,0,none⟩),.pointer (some ⟨g12,0,none⟩),u13,u14,u15,u16,u17,u18,u19,u20,u21,u22,u23,u24,u25,u26,u27,u28,u29,u30,u31,u32,u33,u34,u35,u36,u37,u38,u39,u40,u41,u42,u43,u44,u45,u46,u47,u48,u49,u50,u51,u52,u53,u54,u55,u56,u57,u58,u59,u60,u61,u62,u63,u64,u65,u66,u67,u68,u69,u70,u71,u72,u73,u74,u75,u76,u77,u78,u79,u80,u81,u82,u83,u84,u85,u86,u87,u88,u89,u90,u91,u92,u93,u94,u95,u96,u97,u98,u99,u100,u101,u102,u103,u104,u105,u106,u107,u108,u109,u110,u111,u112,u113,u114,u115,u116,u117,u118,u119,u120,u121,u122,u123,u124,u125,u126,u127,u128,u129,u130,u131,u132,u133,u134,u135,u136,u137,u138,u139,u140,u141,u142,u143,u144,u145,u146,u147,u148,u149,u150,u151,u152],[]⟩ w') :
   (fromRegion 7 readsC).wp Try.prog (bodyPost Try.prog Try.f5 R0) ⟨#[u0,u1,u2,.pointer (some ⟨g3,0,none⟩),.pointer (some ⟨g4,0,none⟩),u5,u6,.pointer (some ⟨s,0,none⟩),.slice A1 R.length c1,.slice A2 K.length c2,u10,.pointer (some ⟨g11,0,none⟩),u12,u13,u14,u15,u16,u17,u18,u19,u20,u21,u22,u23,u24,u25,u26,u27,u28,u29,u30,u31,u32,u33,u34,u35,u36,u37,u38,u39,u40,u41,u42,u43,u44,u45,u46,u47,u48,u49,u50,u51,u52,u53,u54,u55,u56,u57,u58,u59,u60,u61,u62,u63,u64,u65,u66,u67,u68,u69,u70,u71,u72,u73,u74,u75,u76,u77,u78,u79,u80,u81,u82,u83,u84,u85,u86,u87,u88,u89,u90,u91,u92,u93,u94,u95,u96,u97,u98,u99,u100,u101,u102,u103,u104,u105,u106,u107,u108,u109,u110,u111,u112,u113,u114,u115,u116,u117,u118,u119,u120,u121,u122,u123,u124,u125,u126,u127,u128,u129,u130,u131,u132,u133,u134,u135,u136,u137,u138,u139,u140,u141,u142,u143,u144,u145,u146,u147,u148,u149,u150,u151,u152],[]⟩ W:=by
 dsimp only
 have e1:=cut_from 8 (fromRegion 7 readsC)
 rw [rd_7_8] at e1
 obtain ⟨CO,hCO⟩ : ∃ CO,CO = fromRegion 8 readsC:=⟨_,rfl⟩
 rw [← hCO] at e1 hk
 clear hCO
 dsimp only at hk
 obtain ⟨ra,rn,ca,cc,fr,fc⟩:=cn
 obtain ⟨⟨a0,n0⟩,⟨b0,m0⟩⟩:=x0
 obtain ⟨⟨a1,n1⟩,⟨b1,m1⟩⟩:=x1
 dsimp only [Cl.vals,Cn.cells,Cn.row',Cn.col',List.cons_append,List.nil_append] at hc h4 hk
 have hrd : ∀ wz,Below W.heap.size W wz → ∀ k,(k < 6 → wz.cell? ⟨g3,k,none⟩ = W.cell? ⟨g3,k,none⟩) ∧ wz.cell? ⟨g4,k,none⟩ = W.cell? ⟨g4,k,none⟩:=fun wz hS k => ⟨fun _ => World.cell?_of_block (a:=⟨g3,k,none⟩) (hS.block g3 (Array.getElem?_eq_some_iff.1 hc).1),World.cell?_of_block (a:=⟨g4,k,none⟩) (hS.block g4 (Array.getElem?_eq_some_iff.1 h4).1)⟩
 have hpair : ∀ {wz : World} {g k : Nat} {a n : Int},wz.cell? ⟨g,k,none⟩ = some (.int .i64 a) → wz.cell? ⟨g,k + 1,none⟩ = some (.int .i64 n) → wz.rangeAt g k [.int .i64 a,.int .i64 n]:=fun h1 h2 i v hv => by
   match i,hv with
   | 0,hv => cases hv; exact h1
   | 1,hv => cases hv; exact h2
 have HTR : ∀ wz,Below W.heap.size W wz → wz.rangeAt g3 0 [.int .i64 ra,.int .i64 rn] ∧ wz.rangeAt g3 2 [.int .i64 ca,.int .i64 cc] ∧ wz.rangeAt g4 0 [.int .i64 a0,.int .i64 n0] ∧ wz.rangeAt g4 2 [.int .i64 b0,.int .i64 m0] ∧ wz.rangeAt g4 4 [.int .i64 a1,.int .i64 n1] ∧ wz.rangeAt g4 6 [.int .i64 b1,.int .i64 m1]:=fun wz hS => by
   have h3':=(hS.block g3 (Array.getElem?_eq_some_iff.1 hc).1).trans hc
   have h4':=(hS.block g4 (Array.getElem?_eq_some_iff.1 h4).1).trans h4
   exact ⟨hpair (cell_of_row _ _ 0 _ _ _ h3') (cell_of_row _ _ 1 _ _ _ h3'),hpair (cell_of_row _ _ 2 _ _ _ h3') (cell_of_row _ _ 3 _ _ _ h3'),hpair (cell_of_row _ _ 0 _ _ _ h4') (cell_of_row _ _ 1 _ _ _ h4'),hpair (cell_of_row _ _ 2 _ _ _ h4') (cell_of_row _ _ 3 _ _ _ h4'),hpair (cell_of_row _ _ 4 _ _ _ h4') (cell_of_row _ _ 5 _ _ _ h4'),hpair (cell_of_row _ _ 6 _ _ _ h4') (cell_of_row _ _ 7 _ _ _ h4')⟩
 have HPR : ∀ wz (x : Ik),Below W.heap.size W wz → Calls Try.prog 19 #[.slice A1 R.length c1,.agg #[.int .i64 x.a,.int .i64 x.n]] wz fun e w' => e = .returned (.int .i64 (posZ R x)) ∧ Below wz.heap.size wz w':=fun wz x hS => rplace_c (own_blk_keep hR hS) (by omega) x
 have HPK : ∀ wz (x : Ik),Below W.heap.size W wz → Calls Try.prog 19 #[.slice A2 K.length c2,.agg #[.int .i64 x.a,.int .i64 x.n]] wz fun e w' => e = .returned (.int .i64 (posZ K x)) ∧ Below wz.heap.size wz w':=fun wz x hS => rplace_c (own_blk_keep hK hS) (by omega) x
 obtain ⟨z0,hz0⟩ : ∃ z,z = posZ R ⟨ra,rn⟩:=⟨_,rfl⟩
 have HC0:=Lib.hid (fun wz hS => show Calls Try.prog 19 #[.slice A1 R.length c1,.agg #[.int .i64 ra,.int .i64 rn]] wz fun e w' => e = .returned (.int .i64 z0) ∧ Below wz.heap.size wz w' from by rw [hz0]; exact HPR wz ⟨ra,rn⟩ hS)
 rw [← hz0] at hk
 obtain ⟨z1,hz1⟩ : ∃ z,z = posZ K ⟨ca,cc⟩:=⟨_,rfl⟩
 have HC1:=Lib.hid (fun wz hS => show Calls Try.prog 19 #[.slice A2 K.length c2,.agg #[.int .i64 ca,.int .i64 cc]] wz fun e w' => e = .returned (.int .i64 z1) ∧ Below wz.heap.size wz w' from by rw [hz1]; exact HPK wz ⟨ca,cc⟩ hS)
 rw [← hz1] at hk
 obtain ⟨z2,hz2⟩ : ∃ z,z = posZ R ⟨a0,n0⟩:=⟨_,rfl⟩
 have HC2:=Lib.hid (fun wz hS => show Calls Try.prog 19 #[.slice A1 R.length c1,.agg #[.int .i64 a0,.int .i64 n0]] wz fun e w' => e = .returned (.int .i64 z2) ∧ Below wz.heap.size wz w' from by rw [hz2]; exact HPR wz ⟨a0,n0⟩ hS)
 rw [← hz2] at hk
 obtain ⟨z3,hz3⟩ : ∃ z,z = posZ K ⟨b0,m0⟩:=⟨_,rfl⟩
 have HC3:=Lib.hid (fun wz hS => show Calls Try.prog 19 #[.slice A2 K.length c2,.agg #[.int .i64 b0,.int .i64 m0]] wz fun e w' => e = .returned (.int .i64 z3) ∧ Below wz.heap.size wz w' from by rw [hz3]; exact HPK wz ⟨b0,m0⟩ hS)
 rw [← hz3] at hk
 obtain ⟨z4,hz4⟩ : ∃ z,z = posZ R ⟨a1,n1⟩:=⟨_,rfl⟩
 have HC4:=Lib.hid (fun wz hS => show Calls Try.prog 19 #[.slice A1 R.length c1,.agg #[.int .i64 a1,.int .i64 n1]] wz fun e w' => e = .returned (.int .i64 z4) ∧ Below wz.heap.size wz w' from by rw [hz4]; exact HPR wz ⟨a1,n1⟩ hS)
 rw [← hz4] at hk
 obtain ⟨z5,hz5⟩ : ∃ z,z = posZ K ⟨b1,m1⟩:=⟨_,rfl⟩
 have HC5:=Lib.hid (fun wz hS => show Calls Try.prog 19 #[.slice A2 K.length c2,.agg #[.int .i64 b1,.int .i64 m1]] wz fun e w' => e = .returned (.int .i64 z5) ∧ Below wz.heap.size wz w' from by rw [hz5]; exact HPK wz ⟨b1,m1⟩ hS)
 rw [← hz5] at hk
 obtain ⟨nr,hnr⟩ : ∃ n,n = R.length:=⟨_,rfl⟩
 obtain ⟨nk,hnk⟩ : ∃ n,n = K.length:=⟨_,rfl⟩
 rw [← hnr,← hnk] at hk ⊢
 rw [← hnr] at HC0 HC2 HC4
 rw [← hnk] at HC1 HC3 HC5
 have HK:=Lib.hid hk
 have HTR:=Lib.hid HTR
 have HIL:=Lib.hid (show ∀ a b : Value,(Try.prog.info? 31).map (·.size) = some [a,b].length from fun _ _ => infIk)
 clear hc h4 hR hK hRl hKl hk hrd hpair HPR HPK hnr hnk hz0 hz1 hz2 hz3 hz4 hz5
 rw [← e1]
 clear e1
 conv => arg 2; whnf; repeat (arg 2; whnf)
 go_upto_region 7 with (fail)
 refine wp_region_held_drew (S:=fun wz => Below W.heap.size W wz) (by kernel_rfl) (Below.refl _ W).drew (fun hHeld => ?_)
 refine wpAnyH_take (i:=0) (v:=.slice A1 nr c1) rfl (by kernel_rfl) (by kernel_rfl) (by kernel_rfl) (fun _ _ _ h => h) (Or.inl ⟨by kernel_rfl,fun _ hS => by kernel_rfl⟩) hHeld ?_
 try simp only [sX]
 refine wpAnyH_take (i:=1) (v:=.pointer (some ⟨g3,0,none⟩)) rfl (by kernel_rfl) (by kernel_rfl) (by kernel_rfl) (fun _ _ _ h => h) (Or.inl ⟨by kernel_rfl,fun _ hS => by kernel_rfl⟩) hHeld ?_
 try simp only [sX]
 refine wpAnyH_take (i:=2) (v:=.agg #[.int .i64 ra,.int .i64 rn]) rfl (by kernel_rfl) (by kernel_rfl) (by kernel_rfl) (fun _ _ _ h => h) (yieldsIf_load_mid (by kernel_rfl) 31 _ rfl g3 0 rfl [.int .i64 ra,.int .i64 rn] _ (fun _ hS => (HTR.out _ hS).1) ikUnd rfl (HIL.out _ _)) hHeld ?_
 try simp only [sX]
 refine wpAnyH_take (i:=4) (v:=.slice A2 nk c2) rfl (by kernel_rfl) (by kernel_rfl) (by kernel_rfl) (fun _ _ _ h => h) (Or.inl ⟨by kernel_rfl,fun _ hS => by kernel_rfl⟩) hHeld ?_
 try simp only [sX]
 refine wpAnyH_take (i:=5) (v:=.pointer (some ⟨g3,2,none⟩)) rfl (by kernel_rfl) (by kernel_rfl) (by kernel_rfl) (fun _ _ _ h => h) (Or.inl ⟨by kernel_rfl,fun _ hS => by kernel_rfl⟩) hHeld ?_
 try simp only [sX]
 refine wpAnyH_take (i:=6) (v:=.agg #[.int .i64 ca,.int .i64 cc]) rfl (by kernel_rfl) (by kernel_rfl) (by kernel_rfl) (fun _ _ _ h => h) (yieldsIf_load_mid (by kernel_rfl) 31 _ rfl g3 2 rfl [.int .i64 ca,.int .i64 cc] _ (fun _ hS => (HTR.out _ hS).2.1) ikUnd rfl (HIL.out _ _)) hHeld ?_
 try simp only [sX]
 refine wpAnyH_take (i:=8) (v:=.slice A1 nr c1) rfl (by kernel_rfl) (by kernel_rfl) (by kernel_rfl) (fun _ _ _ h => h) (Or.inl ⟨by kernel_rfl,fun _ hS => by kernel_rfl⟩) hHeld ?_
 try simp only [sX]
 refine wpAnyH_take (i:=9) (v:=.pointer (some ⟨g4,0,none⟩)) rfl (by kernel_rfl) (by kernel_rfl) (by kernel_rfl) (fun _ _ _ h => h) (Or.inl ⟨by kernel_rfl,fun _ hS => by kernel_rfl⟩) hHeld ?_
 try simp only [sX]
 refine wpAnyH_take (i:=10) (v:=.pointer (some ⟨g4,0,none⟩)) rfl (by kernel_rfl) (by kernel_rfl) (by kernel_rfl) (fun _ _ _ h => h) (Or.inl ⟨by kernel_rfl,fun _ hS => by kernel_rfl⟩) hHeld ?_
 try simp only [sX]
 refine wpAnyH_take (i:=11) (v:=.agg #[.int .i64 a0,.int .i64 n0]) rfl (by kernel_rfl) (by kernel_rfl) (by kernel_rfl) (fun _ _ _ h => h) (yieldsIf_load_mid (by kernel_rfl) 31 _ rfl g4 0 rfl [.int .i64 a0,.int .i64 n0] _ (fun _ hS => (HTR.out _ hS).2.2.1) ikUnd rfl (HIL.out _ _)) hHeld ?_
 try simp only [sX]
 refine wpAnyH_take (i:=13) (v:=.slice A2 nk c2) rfl (by kernel_rfl) (by kernel_rfl) (by kernel_rfl) (fun _ _ _ h => h) (Or.inl ⟨by kernel_rfl,fun _ hS => by kernel_rfl⟩) hHeld ?_
 try simp only [sX]
 refine wpAnyH_take (i:=14) (v:=.pointer (some ⟨g4,0,none⟩)) rfl (by kernel_rfl) (by kernel_rfl) (by kernel_rfl) (fun _ _ _ h => h) (Or.inl ⟨by kernel_rfl,fun _ hS => by kernel_rfl⟩) hHeld ?_
 try simp only [sX]
 refine wpAnyH_take (i:=15) (v:=.pointer (some ⟨g4,2,none⟩)) rfl (by kernel_rfl) (by kernel_rfl) (by kernel_rfl) (fun _ _ _ h => h) (Or.inl ⟨by kernel_rfl,fun _ hS => by kernel_rfl⟩) hHeld ?_
 try simp only [sX]
 refine wpAnyH_take (i:=16) (v:=.agg #[.int .i64 b0,.int .i64 m0]) rfl (by kernel_rfl) (by kernel_rfl) (by kernel_rfl) (fun _ _ _ h => h) (yieldsIf_load_mid (by kernel_rfl) 31 _ rfl g4 2 rfl [.int .i64 b0,.int .i64 m0] _ (fun _ hS => (HTR.out _ hS).2.2.2.1) ikUnd rfl (HIL.out _ _)) hHeld ?_
 try simp only [sX]
 refine wpAnyH_take (i:=18) (v:=.slice A1 nr c1) rfl (by kernel_rfl) (by kernel_rfl) (by kernel_rfl) (fun _ _ _ h => h) (Or.inl ⟨by kernel_rfl,fun _ hS => by kernel_rfl⟩) hHeld ?_
 try simp only [sX]
 refine wpAnyH_take (i:=19) (v:=.pointer (some ⟨g4,4,none⟩)) rfl (by kernel_rfl) (by kernel_rfl) (by kernel_rfl) (fun _ _ _ h => h) (Or.inl ⟨by kernel_rfl,fun _ hS => by kernel_rfl⟩) hHeld ?_
 try simp only [sX]
 refine wpAnyH_take (i:=20) (v:=.pointer (some ⟨g4,4,none⟩)) rfl (by kernel_rfl) (by kernel_rfl) (by kernel_rfl) (fun _ _ _ h => h) (Or.inl ⟨by kernel_rfl,fun _ hS => by kernel_rfl⟩) hHeld ?_
 try simp only [sX]
 refine wpAnyH_take (i:=21) (v:=.agg #[.int .i64 a1,.int .i64 n1]) rfl (by kernel_rfl) (by kernel_rfl) (by kernel_rfl) (fun _ _ _ h => h) (yieldsIf_load_mid (by kernel_rfl) 31 _ rfl g4 4 rfl [.int .i64 a1,.int .i64 n1] _ (fun _ hS => (HTR.out _ hS).2.2.2.2.1) ikUnd rfl (HIL.out _ _)) hHeld ?_
 try simp only [sX]
 refine wpAnyH_take (i:=23) (v:=.slice A2 nk c2) rfl (by kernel_rfl) (by kernel_rfl) (by kernel_rfl) (fun _ _ _ h => h) (Or.inl ⟨by kernel_rfl,fun _ hS => by kernel_rfl⟩) hHeld ?_
 try simp only [sX]
 refine wpAnyH_take (i:=24) (v:=.pointer (some ⟨g4,4,none⟩)) rfl (by kernel_rfl) (by kernel_rfl) (by kernel_rfl) (fun _ _ _ h => h) (Or.inl ⟨by kernel_rfl,fun _ hS => by kernel_rfl⟩) hHeld ?_
 try simp only [sX]
 refine wpAnyH_take (i:=25) (v:=.pointer (some ⟨g4,6,none⟩)) rfl (by kernel_rfl) (by kernel_rfl) (by kernel_rfl) (fun _ _ _ h => h) (Or.inl ⟨by kernel_rfl,fun _ hS => by kernel_rfl⟩) hHeld ?_
 try simp only [sX]
 refine wpAnyH_take (i:=26) (v:=.agg #[.int .i64 b1,.int .i64 m1]) rfl (by kernel_rfl) (by kernel_rfl) (by kernel_rfl) (fun _ _ _ h => h) (yieldsIf_load_mid (by kernel_rfl) 31 _ rfl g4 6 rfl [.int .i64 b1,.int .i64 m1] _ (fun _ hS => (HTR.out _ hS).2.2.2.2.2) ikUnd rfl (HIL.out _ _)) hHeld ?_
 try simp only [sX]
 obtain ⟨wa,hwa⟩ : ∃ wa,wa = W.drew:=⟨_,rfl⟩
 rw [← hwa] at hHeld ⊢
 clear hwa
 refine wpAnyH_ready (rs:=[3,29]) (by kernel_rfl) (by simp) ?_
 refine (AllReadyH.cons rfl (fun K hK => ?_) (AllReadyH.cons rfl (fun K hK => ?_) AllReadyH.nil))
 · skip
   go_simp
   refine (HC0.out wa hHeld).mono ?_
   rintro e wa0 ⟨rfl,hbn⟩
   try go_simp
   refine hK.out _ _ (hHeld.trans (hbn.mono hHeld.size)) (fun hHeld1 => ?_)
   clear hK K hHeld hbn
   have hHeld:=hHeld1
   clear hHeld1
   try simp only [sX]
   refine wpAnyH_ready (rs:=[7,29]) (by kernel_rfl) (by simp) ?_
   refine (AllReadyH.cons rfl (fun K hK => ?_) (AllReadyH.cons rfl (fun K hK => ?_) AllReadyH.nil))
   · skip
     go_simp
     refine (HC1.out wa0 hHeld).mono ?_
     rintro e wa01 ⟨rfl,hbn⟩
     try go_simp
     refine hK.out _ _ (hHeld.trans (hbn.mono hHeld.size)) (fun hHeld1 => ?_)
     clear hK K hHeld hbn
     have hHeld:=hHeld1
     clear hHeld1
     try simp only [sX]
     refine wpAnyH_ready (rs:=[12,29]) (by kernel_rfl) (by simp) ?_
     refine (AllReadyH.cons rfl (fun K hK => ?_) (AllReadyH.cons rfl (fun K hK => ?_) AllReadyH.nil))
     · skip
       go_simp
       refine (HC2.out wa01 hHeld).mono ?_
       rintro e wa012 ⟨rfl,hbn⟩
       try go_simp
       refine hK.out _ _ (hHeld.trans (hbn.mono hHeld.size)) (fun hHeld1 => ?_)
       clear hK K hHeld hbn
       have hHeld:=hHeld1
       clear hHeld1
       try simp only [sX]
       refine wpAnyH_ready (rs:=[17,29]) (by kernel_rfl) (by simp) ?_
       refine (AllReadyH.cons rfl (fun K hK => ?_) (AllReadyH.cons rfl (fun K hK => ?_) AllReadyH.nil))
       · skip
         go_simp
         refine (HC3.out wa012 hHeld).mono ?_
         rintro e wa0123 ⟨rfl,hbn⟩
         try go_simp
         refine hK.out _ _ (hHeld.trans (hbn.mono hHeld.size)) (fun hHeld1 => ?_)
         clear hK K hHeld hbn
         have hHeld:=hHeld1
         clear hHeld1
         try simp only [sX]
         refine wpAnyH_ready (rs:=[22,29]) (by kernel_rfl) (by simp) ?_
         refine (AllReadyH.cons rfl (fun K hK => ?_) (AllReadyH.cons rfl (fun K hK => ?_) AllReadyH.nil))
         · skip
           go_simp
           refine (HC4.out wa0123 hHeld).mono ?_
           rintro e wa01234 ⟨rfl,hbn⟩
           try go_simp
           refine hK.out _ _ (hHeld.trans (hbn.mono hHeld.size)) (fun hHeld1 => ?_)
           clear hK K hHeld hbn
           have hHeld:=hHeld1
           clear hHeld1
           try simp only [sX]
           refine wpAnyH_ready (rs:=[27,29]) (by kernel_rfl) (by simp) ?_
           refine (AllReadyH.cons rfl (fun K hK => ?_) (AllReadyH.cons rfl (fun K hK => ?_) AllReadyH.nil))
           · skip
             go_simp
             refine (HC5.out wa01234 hHeld).mono ?_
             rintro e wa012345 ⟨rfl,hbn⟩
             try go_simp
             refine hK.out _ _ (hHeld.trans (hbn.mono hHeld.size)) (fun hHeld1 => ?_)
             clear hK K hHeld hbn
             have hHeld:=hHeld1
             clear hHeld1
             try simp only [sX]
             refine wpAnyH_take (i:=28) (v:=.agg #[.int .i64 z0,.int .i64 z1,.int .i64 z2,.int .i64 z3,.int .i64 z4,.int .i64 z5]) rfl (by kernel_rfl) (by kernel_rfl) (by kernel_rfl) (fun _ _ _ h => h) (Or.inl ⟨by kernel_rfl,fun _ hS => by kernel_rfl⟩) hHeld ?_
             try simp only [sX]
             refine wpAnyH_ready (rs:=[29]) (by kernel_rfl) (by simp) ?_
             refine (AllReadyH.cons rfl (fun K hK => ?_) AllReadyH.nil)
             rw [if_pos (wanted_none rfl)]
             refine wp_runF (v:=.pointer (some ⟨wa012345.heap.size,0,none⟩)) (w':=wa012345.alloc (.cells #[.int .i64 0,.int .i64 0,.int .i64 0,.int .i64 0,.int .i64 0,.int .i64 0] 79)) (by kernel_rfl) ?_
             obtain ⟨wa012345n,hwo⟩ : ∃ x,x = wa012345.alloc (.cells #[.int .i64 0,.int .i64 0,.int .i64 0,.int .i64 0,.int .i64 0,.int .i64 0] 79):=⟨_,rfl⟩
             obtain ⟨gz,hgz⟩ : ∃ x,x = wa012345.heap.size:=⟨_,rfl⟩
             have hbn : Below wa012345.heap.size wa012345 wa012345n:=by rw [hwo]; exact (Below.refl _ wa012345).alloc (Nat.le_refl _) _
             have hz : wa012345n.heap[gz]? = some (.cells #[.int .i64 0,.int .i64 0,.int .i64 0,.int .i64 0,.int .i64 0,.int .i64 0] 79):=by rw [hwo,hgz]; exact heap_alloc_new _ _
             rw [← hwo,← hgz]
             have hgl : W.heap.size ≤ gz:=by rw [hgz]; exact hHeld.size
             refine hK.out _ _ (hHeld.trans (hbn.mono hHeld.size)) (fun hHeld1 => ?_)
             clear hK K hHeld hbn hwo hgz
             have hHeld:=hHeld1
             clear hHeld1
             try simp only [sX]
             refine wpAnyH_ready (rs:=[30]) (by kernel_rfl) (by simp) ?_
             refine (AllReadyH.cons rfl (fun K hK => ?_) AllReadyH.nil)
             rw [if_pos (wanted_none rfl)]
             refine wp_store_row 79 _ _ rfl gz #[.int .i64 z0,.int .i64 z1,.int .i64 z2,.int .i64 z3,.int .i64 z4,.int .i64 z5] rfl rfl 79 #[.int .i64 0,.int .i64 0,.int .i64 0,.int .i64 0,.int .i64 0,.int .i64 0] hz (by kernel_rfl) rfl (by kernel_rfl) ?_
             have hr5:=setRow_heap wa012345n gz #[.int .i64 0,.int .i64 0,.int .i64 0,.int .i64 0,.int .i64 0,.int .i64 0] #[.int .i64 z0,.int .i64 z1,.int .i64 z2,.int .i64 z3,.int .i64 z4,.int .i64 z5] 79 (0,0) hz
             have hbr:=below_row hHeld hgl #[.int .i64 z0,.int .i64 z1,.int .i64 z2,.int .i64 z3,.int .i64 z4,.int .i64 z5]
             obtain ⟨wf,hwf⟩ : ∃ x,x = wa012345n.setRow gz #[.int .i64 z0,.int .i64 z1,.int .i64 z2,.int .i64 z3,.int .i64 z4,.int .i64 z5]:=⟨_,rfl⟩
             rw [← hwf] at hr5 hbr ⊢
             clear hwf
             refine hK.out _ _ hbr (fun hHeld1 => ?_)
             clear hK K hHeld
             have hHeld:=hHeld1
             clear hHeld1
             try simp only [sX]
             have HE:=Lib.hid (And.intro hbr hr5)
             clear hbr hr5 hz hgl
             refine wpAnyH_done (by kernel_rfl) ?_ _
             clear hHeld
             go_wp2_with fail
             exact HK.out _ gz _ _ _ _ _ _ _ _ _ _ _ _ _ _ _ _ _ _ _ _ _ _ _ _ _ _ _ _ _ _ _ _ _ _ _ _ _ _ _ _ _ _ _ _ _ _ _ _ _ _ _ _ _ _ _ _ _ _ _ _ _ _ _ _ _ _ _ _ _ _ _ _ _ _ _ _ _ _ _ _ _ _ _ _ _ _ _ _ _ _ _ _ _ _ _ _ _ _ _ _ _ _ _ _ _ _ _ _ _ _ _ _ _ _ _ _ _ _ _ _ _ _ _ _ _ _ _ _ _ _ _ _ _ _ _ _ _ _ _ _ _ _ _ _ _ _ HE.out.1 HE.out.2
           · skip
             rw [if_pos (wanted_none rfl)]
             refine wp_runF (v:=.pointer (some ⟨wa01234.heap.size,0,none⟩)) (w':=wa01234.alloc (.cells #[.int .i64 0,.int .i64 0,.int .i64 0,.int .i64 0,.int .i64 0,.int .i64 0] 79)) (by kernel_rfl) ?_
             obtain ⟨wa01234n,hwo⟩ : ∃ x,x = wa01234.alloc (.cells #[.int .i64 0,.int .i64 0,.int .i64 0,.int .i64 0,.int .i64 0,.int .i64 0] 79):=⟨_,rfl⟩
             obtain ⟨gz,hgz⟩ : ∃ x,x = wa01234.heap.size:=⟨_,rfl⟩
             have hbn : Below wa01234.heap.size wa01234 wa01234n:=by rw [hwo]; exact (Below.refl _ wa01234).alloc (Nat.le_refl _) _
             have hz : wa01234n.heap[gz]? = some (.cells #[.int .i64 0,.int .i64 0,.int .i64 0,.int .i64 0,.int .i64 0,.int .i64 0] 79):=by rw [hwo,hgz]; exact heap_alloc_new _ _
             rw [← hwo,← hgz]
             have hgl : W.heap.size ≤ gz:=by rw [hgz]; exact hHeld.size
             refine hK.out _ _ (hHeld.trans (hbn.mono hHeld.size)) (fun hHeld1 => ?_)
             clear hK K hHeld hbn hwo hgz
             have hHeld:=hHeld1
             clear hHeld1
             try simp only [sX]
             refine wpAnyH_ready (rs:=[27]) (by kernel_rfl) (by simp) ?_
             refine (AllReadyH.cons rfl (fun K hK => ?_) AllReadyH.nil)
             go_simp
             refine (HC5.out wa01234n hHeld).mono ?_
             rintro e wa01234n5 ⟨rfl,hbn⟩
             try go_simp
             have hz:=(hbn.block gz (Array.getElem?_eq_some_iff.1 hz).1).trans hz
             refine hK.out _ _ (hHeld.trans (hbn.mono hHeld.size)) (fun hHeld1 => ?_)
             clear hK K hHeld hbn
             have hHeld:=hHeld1
             clear hHeld1
             try simp only [sX]
             refine wpAnyH_take (i:=28) (v:=.agg #[.int .i64 z0,.int .i64 z1,.int .i64 z2,.int .i64 z3,.int .i64 z4,.int .i64 z5]) rfl (by kernel_rfl) (by kernel_rfl) (by kernel_rfl) (fun _ _ _ h => h) (Or.inl ⟨by kernel_rfl,fun _ hS => by kernel_rfl⟩) hHeld ?_
             try simp only [sX]
             refine wpAnyH_ready (rs:=[30]) (by kernel_rfl) (by simp) ?_
             refine (AllReadyH.cons rfl (fun K hK => ?_) AllReadyH.nil)
             rw [if_pos (wanted_none rfl)]
             refine wp_store_row 79 _ _ rfl gz #[.int .i64 z0,.int .i64 z1,.int .i64 z2,.int .i64 z3,.int .i64 z4,.int .i64 z5] rfl rfl 79 #[.int .i64 0,.int .i64 0,.int .i64 0,.int .i64 0,.int .i64 0,.int .i64 0] hz (by kernel_rfl) rfl (by kernel_rfl) ?_
             have hr5:=setRow_heap wa01234n5 gz #[.int .i64 0,.int .i64 0,.int .i64 0,.int .i64 0,.int .i64 0,.int .i64 0] #[.int .i64 z0,.int .i64 z1,.int .i64 z2,.int .i64 z3,.int .i64 z4,.int .i64 z5] 79 (0,0) hz
             have hbr:=below_row hHeld hgl #[.int .i64 z0,.int .i64 z1,.int .i64 z2,.int .i64 z3,.int .i64 z4,.int .i64 z5]
             obtain ⟨wf,hwf⟩ : ∃ x,x = wa01234n5.setRow gz #[.int .i64 z0,.int .i64 z1,.int .i64 z2,.int .i64 z3,.int .i64 z4,.int .i64 z5]:=⟨_,rfl⟩
             rw [← hwf] at hr5 hbr ⊢
             clear hwf
             refine hK.out _ _ hbr (fun hHeld1 => ?_)
             clear hK K hHeld
             have hHeld:=hHeld1
             clear hHeld1
             try simp only [sX]
             have HE:=Lib.hid (And.intro hbr hr5)
             clear hbr hr5 hz hgl
             refine wpAnyH_done (by kernel_rfl) ?_ _
             clear hHeld
             go_wp2_with fail
             exact HK.out _ gz _ _ _ _ _ _ _ _ _ _ _ _ _ _ _ _ _ _ _ _ _ _ _ _ _ _ _ _ _ _ _ _ _ _ _ _ _ _ _ _ _ _ _ _ _ _ _ _ _ _ _ _ _ _ _ _ _ _ _ _ _ _ _ _ _ _ _ _ _ _ _ _ _ _ _ _ _ _ _ _ _ _ _ _ _ _ _ _ _ _ _ _ _ _ _ _ _ _ _ _ _ _ _ _ _ _ _ _ _ _ _ _ _ _ _ _ _ _ _ _ _ _ _ _ _ _ _ _ _ _ _ _ _ _ _ _ _ _ _ _ _ _ _ _ _ _ HE.out.1 HE.out.2
         · skip
           rw [if_pos (wanted_none rfl)]
           refine wp_runF (v:=.pointer (some ⟨wa0123.heap.size,0,none⟩)) (w':=wa0123.alloc (.cells #[.int .i64 0,.int .i64 0,.int .i64 0,.int .i64 0,.int .i64 0,.int .i64 0] 79)) (by kernel_rfl) ?_
           obtain ⟨wa0123n,hwo⟩ : ∃ x,x = wa0123.alloc (.cells #[.int .i64 0,.int .i64 0,.int .i64 0,.int .i64 0,.int .i64 0,.int .i64 0] 79):=⟨_,rfl⟩
           obtain ⟨gz,hgz⟩ : ∃ x,x = wa0123.heap.size:=⟨_,rfl⟩
           have hbn : Below wa0123.heap.size wa0123 wa0123n:=by rw [hwo]; exact (Below.refl _ wa0123).alloc (Nat.le_refl _) _
           have hz : wa0123n.heap[gz]? = some (.cells #[.int .i64 0,.int .i64 0,.int .i64 0,.int .i64 0,.int .i64 0,.int .i64 0] 79):=by rw [hwo,hgz]; exact heap_alloc_new _ _
           rw [← hwo,← hgz]
           have hgl : W.heap.size ≤ gz:=by rw [hgz]; exact hHeld.size
           refine hK.out _ _ (hHeld.trans (hbn.mono hHeld.size)) (fun hHeld1 => ?_)
           clear hK K hHeld hbn hwo hgz
           have hHeld:=hHeld1
           clear hHeld1
           try simp only [sX]
           refine wpAnyH_ready (rs:=[22]) (by kernel_rfl) (by simp) ?_
           refine (AllReadyH.cons rfl (fun K hK => ?_) AllReadyH.nil)
           go_simp
           refine (HC4.out wa0123n hHeld).mono ?_
           rintro e wa0123n4 ⟨rfl,hbn⟩
           try go_simp
           have hz:=(hbn.block gz (Array.getElem?_eq_some_iff.1 hz).1).trans hz
           refine hK.out _ _ (hHeld.trans (hbn.mono hHeld.size)) (fun hHeld1 => ?_)
           clear hK K hHeld hbn
           have hHeld:=hHeld1
           clear hHeld1
           try simp only [sX]
           refine wpAnyH_ready (rs:=[27]) (by kernel_rfl) (by simp) ?_
           refine (AllReadyH.cons rfl (fun K hK => ?_) AllReadyH.nil)
           go_simp
           refine (HC5.out wa0123n4 hHeld).mono ?_
           rintro e wa0123n45 ⟨rfl,hbn⟩
           try go_simp
           have hz:=(hbn.block gz (Array.getElem?_eq_some_iff.1 hz).1).trans hz
           refine hK.out _ _ (hHeld.trans (hbn.mono hHeld.size)) (fun hHeld1 => ?_)
           clear hK K hHeld hbn
           have hHeld:=hHeld1
           clear hHeld1
           try simp only [sX]
           refine wpAnyH_take (i:=28) (v:=.agg #[.int .i64 z0,.int .i64 z1,.int .i64 z2,.int .i64 z3,.int .i64 z4,.int .i64 z5]) rfl (by kernel_rfl) (by kernel_rfl) (by kernel_rfl) (fun _ _ _ h => h) (Or.inl ⟨by kernel_rfl,fun _ hS => by kernel_rfl⟩) hHeld ?_
           try simp only [sX]
           refine wpAnyH_ready (rs:=[30]) (by kernel_rfl) (by simp) ?_
           refine (AllReadyH.cons rfl (fun K hK => ?_) AllReadyH.nil)
           rw [if_pos (wanted_none rfl)]
           refine wp_store_row 79 _ _ rfl gz #[.int .i64 z0,.int .i64 z1,.int .i64 z2,.int .i64 z3,.int .i64 z4,.int .i64 z5] rfl rfl 79 #[.int .i64 0,.int .i64 0,.int .i64 0,.int .i64 0,.int .i64 0,.int .i64 0] hz (by kernel_rfl) rfl (by kernel_rfl) ?_
           have hr5:=setRow_heap wa0123n45 gz #[.int .i64 0,.int .i64 0,.int .i64 0,.int .i64 0,.int .i64 0,.int .i64 0] #[.int .i64 z0,.int .i64 z1,.int .i64 z2,.int .i64 z3,.int .i64 z4,.int .i64 z5] 79 (0,0) hz
           have hbr:=below_row hHeld hgl #[.int .i64 z0,.int .i64 z1,.int .i64 z2,.int .i64 z3,.int .i64 z4,.int .i64 z5]
           obtain ⟨wf,hwf⟩ : ∃ x,x = wa0123n45.setRow gz #[.int .i64 z0,.int .i64 z1,.int .i64 z2,.int .i64 z3,.int .i64 z4,.int .i64 z5]:=⟨_,rfl⟩
           rw [← hwf] at hr5 hbr ⊢
           clear hwf
           refine hK.out _ _ hbr (fun hHeld1 => ?_)
           clear hK K hHeld
           have hHeld:=hHeld1
           clear hHeld1
           try simp only [sX]
           have HE:=Lib.hid (And.intro hbr hr5)
           clear hbr hr5 hz hgl
           refine wpAnyH_done (by kernel_rfl) ?_ _
           clear hHeld
           go_wp2_with fail
           exact HK.out _ gz _ _ _ _ _ _ _ _ _ _ _ _ _ _ _ _ _ _ _ _ _ _ _ _ _ _ _ _ _ _ _ _ _ _ _ _ _ _ _ _ _ _ _ _ _ _ _ _ _ _ _ _ _ _ _ _ _ _ _ _ _ _ _ _ _ _ _ _ _ _ _ _ _ _ _ _ _ _ _ _ _ _ _ _ _ _ _ _ _ _ _ _ _ _ _ _ _ _ _ _ _ _ _ _ _ _ _ _ _ _ _ _ _ _ _ _ _ _ _ _ _ _ _ _ _ _ _ _ _ _ _ _ _ _ _ _ _ _ _ _ _ _ _ _ _ _ HE.out.1 HE.out.2
       · skip
         rw [if_pos (wanted_none rfl)]
         refine wp_runF (v:=.pointer (some ⟨wa012.heap.size,0,none⟩)) (w':=wa012.alloc (.cells #[.int .i64 0,.int .i64 0,.int .i64 0,.int .i64 0,.int .i64 0,.int .i64 0] 79)) (by kernel_rfl) ?_
         obtain ⟨wa012n,hwo⟩ : ∃ x,x = wa012.alloc (.cells #[.int .i64 0,.int .i64 0,.int .i64 0,.int .i64 0,.int .i64 0,.int .i64 0] 79):=⟨_,rfl⟩
         obtain ⟨gz,hgz⟩ : ∃ x,x = wa012.heap.size:=⟨_,rfl⟩
         have hbn : Below wa012.heap.size wa012 wa012n:=by rw [hwo]; exact (Below.refl _ wa012).alloc (Nat.le_refl _) _
         have hz : wa012n.heap[gz]? = some (.cells #[.int .i64 0,.int .i64 0,.int .i64 0,.int .i64 0,.int .i64 0,.int .i64 0] 79):=by rw [hwo,hgz]; exact heap_alloc_new _ _
         rw [← hwo,← hgz]
         have hgl : W.heap.size ≤ gz:=by rw [hgz]; exact hHeld.size
         refine hK.out _ _ (hHeld.trans (hbn.mono hHeld.size)) (fun hHeld1 => ?_)
         clear hK K hHeld hbn hwo hgz
         have hHeld:=hHeld1
         clear hHeld1
         try simp only [sX]
         refine wpAnyH_ready (rs:=[17]) (by kernel_rfl) (by simp) ?_
         refine (AllReadyH.cons rfl (fun K hK => ?_) AllReadyH.nil)
         go_simp
         refine (HC3.out wa012n hHeld).mono ?_
         rintro e wa012n3 ⟨rfl,hbn⟩
         try go_simp
         have hz:=(hbn.block gz (Array.getElem?_eq_some_iff.1 hz).1).trans hz
         refine hK.out _ _ (hHeld.trans (hbn.mono hHeld.size)) (fun hHeld1 => ?_)
         clear hK K hHeld hbn
         have hHeld:=hHeld1
         clear hHeld1
         try simp only [sX]
         refine wpAnyH_ready (rs:=[22]) (by kernel_rfl) (by simp) ?_
         refine (AllReadyH.cons rfl (fun K hK => ?_) AllReadyH.nil)
         go_simp
         refine (HC4.out wa012n3 hHeld).mono ?_
         rintro e wa012n34 ⟨rfl,hbn⟩
         try go_simp
         have hz:=(hbn.block gz (Array.getElem?_eq_some_iff.1 hz).1).trans hz
         refine hK.out _ _ (hHeld.trans (hbn.mono hHeld.size)) (fun hHeld1 => ?_)
         clear hK K hHeld hbn
         have hHeld:=hHeld1
         clear hHeld1
         try simp only [sX]
         refine wpAnyH_ready (rs:=[27]) (by kernel_rfl) (by simp) ?_
         refine (AllReadyH.cons rfl (fun K hK => ?_) AllReadyH.nil)
         go_simp
         refine (HC5.out wa012n34 hHeld).mono ?_
         rintro e wa012n345 ⟨rfl,hbn⟩
         try go_simp
         have hz:=(hbn.block gz (Array.getElem?_eq_some_iff.1 hz).1).trans hz
         refine hK.out _ _ (hHeld.trans (hbn.mono hHeld.size)) (fun hHeld1 => ?_)
         clear hK K hHeld hbn
         have hHeld:=hHeld1
         clear hHeld1
         try simp only [sX]
         refine wpAnyH_take (i:=28) (v:=.agg #[.int .i64 z0,.int .i64 z1,.int .i64 z2,.int .i64 z3,.int .i64 z4,.int .i64 z5]) rfl (by kernel_rfl) (by kernel_rfl) (by kernel_rfl) (fun _ _ _ h => h) (Or.inl ⟨by kernel_rfl,fun _ hS => by kernel_rfl⟩) hHeld ?_
         try simp only [sX]
         refine wpAnyH_ready (rs:=[30]) (by kernel_rfl) (by simp) ?_
         refine (AllReadyH.cons rfl (fun K hK => ?_) AllReadyH.nil)
         rw [if_pos (wanted_none rfl)]
         refine wp_store_row 79 _ _ rfl gz #[.int .i64 z0,.int .i64 z1,.int .i64 z2,.int .i64 z3,.int .i64 z4,.int .i64 z5] rfl rfl 79 #[.int .i64 0,.int .i64 0,.int .i64 0,.int .i64 0,.int .i64 0,.int .i64 0] hz (by kernel_rfl) rfl (by kernel_rfl) ?_
         have hr5:=setRow_heap wa012n345 gz #[.int .i64 0,.int .i64 0,.int .i64 0,.int .i64 0,.int .i64 0,.int .i64 0] #[.int .i64 z0,.int .i64 z1,.int .i64 z2,.int .i64 z3,.int .i64 z4,.int .i64 z5] 79 (0,0) hz
         have hbr:=below_row hHeld hgl #[.int .i64 z0,.int .i64 z1,.int .i64 z2,.int .i64 z3,.int .i64 z4,.int .i64 z5]
         obtain ⟨wf,hwf⟩ : ∃ x,x = wa012n345.setRow gz #[.int .i64 z0,.int .i64 z1,.int .i64 z2,.int .i64 z3,.int .i64 z4,.int .i64 z5]:=⟨_,rfl⟩
         rw [← hwf] at hr5 hbr ⊢
         clear hwf
         refine hK.out _ _ hbr (fun hHeld1 => ?_)
         clear hK K hHeld
         have hHeld:=hHeld1
         clear hHeld1
         try simp only [sX]
         have HE:=Lib.hid (And.intro hbr hr5)
         clear hbr hr5 hz hgl
         refine wpAnyH_done (by kernel_rfl) ?_ _
         clear hHeld
         go_wp2_with fail
         exact HK.out _ gz _ _ _ _ _ _ _ _ _ _ _ _ _ _ _ _ _ _ _ _ _ _ _ _ _ _ _ _ _ _ _ _ _ _ _ _ _ _ _ _ _ _ _ _ _ _ _ _ _ _ _ _ _ _ _ _ _ _ _ _ _ _ _ _ _ _ _ _ _ _ _ _ _ _ _ _ _ _ _ _ _ _ _ _ _ _ _ _ _ _ _ _ _ _ _ _ _ _ _ _ _ _ _ _ _ _ _ _ _ _ _ _ _ _ _ _ _ _ _ _ _ _ _ _ _ _ _ _ _ _ _ _ _ _ _ _ _ _ _ _ _ _ _ _ _ _ HE.out.1 HE.out.2
     · skip
       rw [if_pos (wanted_none rfl)]
       refine wp_runF (v:=.pointer (some ⟨wa01.heap.size,0,none⟩)) (w':=wa01.alloc (.cells #[.int .i64 0,.int .i64 0,.int .i64 0,.int .i64 0,.int .i64 0,.int .i64 0] 79)) (by kernel_rfl) ?_
       obtain ⟨wa01n,hwo⟩ : ∃ x,x = wa01.alloc (.cells #[.int .i64 0,.int .i64 0,.int .i64 0,.int .i64 0,.int .i64 0,.int .i64 0] 79):=⟨_,rfl⟩
       obtain ⟨gz,hgz⟩ : ∃ x,x = wa01.heap.size:=⟨_,rfl⟩
       have hbn : Below wa01.heap.size wa01 wa01n:=by rw [hwo]; exact (Below.refl _ wa01).alloc (Nat.le_refl _) _
       have hz : wa01n.heap[gz]? = some (.cells #[.int .i64 0,.int .i64 0,.int .i64 0,.int .i64 0,.int .i64 0,.int .i64 0] 79):=by rw [hwo,hgz]; exact heap_alloc_new _ _
       rw [← hwo,← hgz]
       have hgl : W.heap.size ≤ gz:=by rw [hgz]; exact hHeld.size
       refine hK.out _ _ (hHeld.trans (hbn.mono hHeld.size)) (fun hHeld1 => ?_)
       clear hK K hHeld hbn hwo hgz
       have hHeld:=hHeld1
       clear hHeld1
       try simp only [sX]
       refine wpAnyH_ready (rs:=[12]) (by kernel_rfl) (by simp) ?_
       refine (AllReadyH.cons rfl (fun K hK => ?_) AllReadyH.nil)
       go_simp
       refine (HC2.out wa01n hHeld).mono ?_
       rintro e wa01n2 ⟨rfl,hbn⟩
       try go_simp
       have hz:=(hbn.block gz (Array.getElem?_eq_some_iff.1 hz).1).trans hz
       refine hK.out _ _ (hHeld.trans (hbn.mono hHeld.size)) (fun hHeld1 => ?_)
       clear hK K hHeld hbn
       have hHeld:=hHeld1
       clear hHeld1
       try simp only [sX]
       refine wpAnyH_ready (rs:=[17]) (by kernel_rfl) (by simp) ?_
       refine (AllReadyH.cons rfl (fun K hK => ?_) AllReadyH.nil)
       go_simp
       refine (HC3.out wa01n2 hHeld).mono ?_
       rintro e wa01n23 ⟨rfl,hbn⟩
       try go_simp
       have hz:=(hbn.block gz (Array.getElem?_eq_some_iff.1 hz).1).trans hz
       refine hK.out _ _ (hHeld.trans (hbn.mono hHeld.size)) (fun hHeld1 => ?_)
       clear hK K hHeld hbn
       have hHeld:=hHeld1
       clear hHeld1
       try simp only [sX]
       refine wpAnyH_ready (rs:=[22]) (by kernel_rfl) (by simp) ?_
       refine (AllReadyH.cons rfl (fun K hK => ?_) AllReadyH.nil)
       go_simp
       refine (HC4.out wa01n23 hHeld).mono ?_
       rintro e wa01n234 ⟨rfl,hbn⟩
       try go_simp
       have hz:=(hbn.block gz (Array.getElem?_eq_some_iff.1 hz).1).trans hz
       refine hK.out _ _ (hHeld.trans (hbn.mono hHeld.size)) (fun hHeld1 => ?_)
       clear hK K hHeld hbn
       have hHeld:=hHeld1
       clear hHeld1
       try simp only [sX]
       refine wpAnyH_ready (rs:=[27]) (by kernel_rfl) (by simp) ?_
       refine (AllReadyH.cons rfl (fun K hK => ?_) AllReadyH.nil)
       go_simp
       refine (HC5.out wa01n234 hHeld).mono ?_
       rintro e wa01n2345 ⟨rfl,hbn⟩
       try go_simp
       have hz:=(hbn.block gz (Array.getElem?_eq_some_iff.1 hz).1).trans hz
       refine hK.out _ _ (hHeld.trans (hbn.mono hHeld.size)) (fun hHeld1 => ?_)
       clear hK K hHeld hbn
       have hHeld:=hHeld1
       clear hHeld1
       try simp only [sX]
       refine wpAnyH_take (i:=28) (v:=.agg #[.int .i64 z0,.int .i64 z1,.int .i64 z2,.int .i64 z3,.int .i64 z4,.int .i64 z5]) rfl (by kernel_rfl) (by kernel_rfl) (by kernel_rfl) (fun _ _ _ h => h) (Or.inl ⟨by kernel_rfl,fun _ hS => by kernel_rfl⟩) hHeld ?_
       try simp only [sX]
       refine wpAnyH_ready (rs:=[30]) (by kernel_rfl) (by simp) ?_
       refine (AllReadyH.cons rfl (fun K hK => ?_) AllReadyH.nil)
       rw [if_pos (wanted_none rfl)]
       refine wp_store_row 79 _ _ rfl gz #[.int .i64 z0,.int .i64 z1,.int .i64 z2,.int .i64 z3,.int .i64 z4,.int .i64 z5] rfl rfl 79 #[.int .i64 0,.int .i64 0,.int .i64 0,.int .i64 0,.int .i64 0,.int .i64 0] hz (by kernel_rfl) rfl (by kernel_rfl) ?_
       have hr5:=setRow_heap wa01n2345 gz #[.int .i64 0,.int .i64 0,.int .i64 0,.int .i64 0,.int .i64 0,.int .i64 0] #[.int .i64 z0,.int .i64 z1,.int .i64 z2,.int .i64 z3,.int .i64 z4,.int .i64 z5] 79 (0,0) hz
       have hbr:=below_row hHeld hgl #[.int .i64 z0,.int .i64 z1,.int .i64 z2,.int .i64 z3,.int .i64 z4,.int .i64 z5]
       obtain ⟨wf,hwf⟩ : ∃ x,x = wa01n2345.setRow gz #[.int .i64 z0,.int .i64 z1,.int .i64 z2,.int .i64 z3,.int .i64 z4,.int .i64 z5]:=⟨_,rfl⟩
       rw [← hwf] at hr5 hbr ⊢
       clear hwf
       refine hK.out _ _ hbr (fun hHeld1 => ?_)
       clear hK K hHeld
       have hHeld:=hHeld1
       clear hHeld1
       try simp only [sX]
       have HE:=Lib.hid (And.intro hbr hr5)
       clear hbr hr5 hz hgl
       refine wpAnyH_done (by kernel_rfl) ?_ _
       clear hHeld
       go_wp2_with fail
       exact HK.out _ gz _ _ _ _ _ _ _ _ _ _ _ _ _ _ _ _ _ _ _ _ _ _ _ _ _ _ _ _ _ _ _ _ _ _ _ _ _ _ _ _ _ _ _ _ _ _ _ _ _ _ _ _ _ _ _ _ _ _ _ _ _ _ _ _ _ _ _ _ _ _ _ _ _ _ _ _ _ _ _ _ _ _ _ _ _ _ _ _ _ _ _ _ _ _ _ _ _ _ _ _ _ _ _ _ _ _ _ _ _ _ _ _ _ _ _ _ _ _ _ _ _ _ _ _ _ _ _ _ _ _ _ _ _ _ _ _ _ _ _ _ _ _ _ _ _ _ HE.out.1 HE.out.2
   · skip
     rw [if_pos (wanted_none rfl)]
     refine wp_runF (v:=.pointer (some ⟨wa0.heap.size,0,none⟩)) (w':=wa0.alloc (.cells #[.int .i64 0,.int .i64 0,.int .i64 0,.int .i64 0,.int .i64 0,.int .i64 0] 79)) (by kernel_rfl) ?_
     obtain ⟨wa0n,hwo⟩ : ∃ x,x = wa0.alloc (.cells #[.int .i64 0,.int .i64 0,.int .i64 0,.int .i64 0,.int .i64 0,.int .i64 0] 79):=⟨_,rfl⟩
     obtain ⟨gz,hgz⟩ : ∃ x,x = wa0.heap.size:=⟨_,rfl⟩
     have hbn : Below wa0.heap.size wa0 wa0n:=by rw [hwo]; exact (Below.refl _ wa0).alloc (Nat.le_refl _) _
     have hz : wa0n.heap[gz]? = some (.cells #[.int .i64 0,.int .i64 0,.int .i64 0,.int .i64 0,.int .i64 0,.int .i64 0] 79):=by rw [hwo,hgz]; exact heap_alloc_new _ _
     rw [← hwo,← hgz]
     have hgl : W.heap.size ≤ gz:=by rw [hgz]; exact hHeld.size
     refine hK.out _ _ (hHeld.trans (hbn.mono hHeld.size)) (fun hHeld1 => ?_)
     clear hK K hHeld hbn hwo hgz
     have hHeld:=hHeld1
     clear hHeld1
     try simp only [sX]
     refine wpAnyH_ready (rs:=[7]) (by kernel_rfl) (by simp) ?_
     refine (AllReadyH.cons rfl (fun K hK => ?_) AllReadyH.nil)
     go_simp
     refine (HC1.out wa0n hHeld).mono ?_
     rintro e wa0n1 ⟨rfl,hbn⟩
     try go_simp
     have hz:=(hbn.block gz (Array.getElem?_eq_some_iff.1 hz).1).trans hz
     refine hK.out _ _ (hHeld.trans (hbn.mono hHeld.size)) (fun hHeld1 => ?_)
     clear hK K hHeld hbn
     have hHeld:=hHeld1
     clear hHeld1
     try simp only [sX]
     refine wpAnyH_ready (rs:=[12]) (by kernel_rfl) (by simp) ?_
     refine (AllReadyH.cons rfl (fun K hK => ?_) AllReadyH.nil)
     go_simp
     refine (HC2.out wa0n1 hHeld).mono ?_
     rintro e wa0n12 ⟨rfl,hbn⟩
     try go_simp
     have hz:=(hbn.block gz (Array.getElem?_eq_some_iff.1 hz).1).trans hz
     refine hK.out _ _ (hHeld.trans (hbn.mono hHeld.size)) (fun hHeld1 => ?_)
     clear hK K hHeld hbn
     have hHeld:=hHeld1
     clear hHeld1
     try simp only [sX]
     refine wpAnyH_ready (rs:=[17]) (by kernel_rfl) (by simp) ?_
     refine (AllReadyH.cons rfl (fun K hK => ?_) AllReadyH.nil)
     go_simp
     refine (HC3.out wa0n12 hHeld).mono ?_
     rintro e wa0n123 ⟨rfl,hbn⟩
     try go_simp
     have hz:=(hbn.block gz (Array.getElem?_eq_some_iff.1 hz).1).trans hz
     refine hK.out _ _ (hHeld.trans (hbn.mono hHeld.size)) (fun hHeld1 => ?_)
     clear hK K hHeld hbn
     have hHeld:=hHeld1
     clear hHeld1
     try simp only [sX]
     refine wpAnyH_ready (rs:=[22]) (by kernel_rfl) (by simp) ?_
     refine (AllReadyH.cons rfl (fun K hK => ?_) AllReadyH.nil)
     go_simp
     refine (HC4.out wa0n123 hHeld).mono ?_
     rintro e wa0n1234 ⟨rfl,hbn⟩
     try go_simp
     have hz:=(hbn.block gz (Array.getElem?_eq_some_iff.1 hz).1).trans hz
     refine hK.out _ _ (hHeld.trans (hbn.mono hHeld.size)) (fun hHeld1 => ?_)
     clear hK K hHeld hbn
     have hHeld:=hHeld1
     clear hHeld1
     try simp only [sX]
     refine wpAnyH_ready (rs:=[27]) (by kernel_rfl) (by simp) ?_
     refine (AllReadyH.cons rfl (fun K hK => ?_) AllReadyH.nil)
     go_simp
     refine (HC5.out wa0n1234 hHeld).mono ?_
     rintro e wa0n12345 ⟨rfl,hbn⟩
     try go_simp
     have hz:=(hbn.block gz (Array.getElem?_eq_some_iff.1 hz).1).trans hz
     refine hK.out _ _ (hHeld.trans (hbn.mono hHeld.size)) (fun hHeld1 => ?_)
     clear hK K hHeld hbn
     have hHeld:=hHeld1
     clear hHeld1
     try simp only [sX]
     refine wpAnyH_take (i:=28) (v:=.agg #[.int .i64 z0,.int .i64 z1,.int .i64 z2,.int .i64 z3,.int .i64 z4,.int .i64 z5]) rfl (by kernel_rfl) (by kernel_rfl) (by kernel_rfl) (fun _ _ _ h => h) (Or.inl ⟨by kernel_rfl,fun _ hS => by kernel_rfl⟩) hHeld ?_
     try simp only [sX]
     refine wpAnyH_ready (rs:=[30]) (by kernel_rfl) (by simp) ?_
     refine (AllReadyH.cons rfl (fun K hK => ?_) AllReadyH.nil)
     rw [if_pos (wanted_none rfl)]
     refine wp_store_row 79 _ _ rfl gz #[.int .i64 z0,.int .i64 z1,.int .i64 z2,.int .i64 z3,.int .i64 z4,.int .i64 z5] rfl rfl 79 #[.int .i64 0,.int .i64 0,.int .i64 0,.int .i64 0,.int .i64 0,.int .i64 0] hz (by kernel_rfl) rfl (by kernel_rfl) ?_
     have hr5:=setRow_heap wa0n12345 gz #[.int .i64 0,.int .i64 0,.int .i64 0,.int .i64 0,.int .i64 0,.int .i64 0] #[.int .i64 z0,.int .i64 z1,.int .i64 z2,.int .i64 z3,.int .i64 z4,.int .i64 z5] 79 (0,0) hz
     have hbr:=below_row hHeld hgl #[.int .i64 z0,.int .i64 z1,.int .i64 z2,.int .i64 z3,.int .i64 z4,.int .i64 z5]
     obtain ⟨wf,hwf⟩ : ∃ x,x = wa0n12345.setRow gz #[.int .i64 z0,.int .i64 z1,.int .i64 z2,.int .i64 z3,.int .i64 z4,.int .i64 z5]:=⟨_,rfl⟩
     rw [← hwf] at hr5 hbr ⊢
     clear hwf
     refine hK.out _ _ hbr (fun hHeld1 => ?_)
     clear hK K hHeld
     have hHeld:=hHeld1
     clear hHeld1
     try simp only [sX]
     have HE:=Lib.hid (And.intro hbr hr5)
     clear hbr hr5 hz hgl
     refine wpAnyH_done (by kernel_rfl) ?_ _
     clear hHeld
     go_wp2_with fail
     exact HK.out _ gz _ _ _ _ _ _ _ _ _ _ _ _ _ _ _ _ _ _ _ _ _ _ _ _ _ _ _ _ _ _ _ _ _ _ _ _ _ _ _ _ _ _ _ _ _ _ _ _ _ _ _ _ _ _ _ _ _ _ _ _ _ _ _ _ _ _ _ _ _ _ _ _ _ _ _ _ _ _ _ _ _ _ _ _ _ _ _ _ _ _ _ _ _ _ _ _ _ _ _ _ _ _ _ _ _ _ _ _ _ _ _ _ _ _ _ _ _ _ _ _ _ _ _ _ _ _ _ _ _ _ _ _ _ _ _ _ _ _ _ _ _ _ _ _ _ _ HE.out.1 HE.out.2
 · skip
   rw [if_pos (wanted_none rfl)]
   refine wp_runF (v:=.pointer (some ⟨wa.heap.size,0,none⟩)) (w':=wa.alloc (.cells #[.int .i64 0,.int .i64 0,.int .i64 0,.int .i64 0,.int .i64 0,.int .i64 0] 79)) (by kernel_rfl) ?_
   obtain ⟨wan,hwo⟩ : ∃ x,x = wa.alloc (.cells #[.int .i64 0,.int .i64 0,.int .i64 0,.int .i64 0,.int .i64 0,.int .i64 0] 79):=⟨_,rfl⟩
   obtain ⟨gz,hgz⟩ : ∃ x,x = wa.heap.size:=⟨_,rfl⟩
   have hbn : Below wa.heap.size wa wan:=by rw [hwo]; exact (Below.refl _ wa).alloc (Nat.le_refl _) _
   have hz : wan.heap[gz]? = some (.cells #[.int .i64 0,.int .i64 0,.int .i64 0,.int .i64 0,.int .i64 0,.int .i64 0] 79):=by rw [hwo,hgz]; exact heap_alloc_new _ _
   rw [← hwo,← hgz]
   have hgl : W.heap.size ≤ gz:=by rw [hgz]; exact hHeld.size
   refine hK.out _ _ (hHeld.trans (hbn.mono hHeld.size)) (fun hHeld1 => ?_)
   clear hK K hHeld hbn hwo hgz
   have hHeld:=hHeld1
   clear hHeld1
   try simp only [sX]
   refine wpAnyH_ready (rs:=[3]) (by kernel_rfl) (by simp) ?_
   refine (AllReadyH.cons rfl (fun K hK => ?_) AllReadyH.nil)
   go_simp
   refine (HC0.out wan hHeld).mono ?_
   rintro e wan0 ⟨rfl,hbn⟩
   try go_simp
   have hz:=(hbn.block gz (Array.getElem?_eq_some_iff.1 hz).1).trans hz
   refine hK.out _ _ (hHeld.trans (hbn.mono hHeld.size)) (fun hHeld1 => ?_)
   clear hK K hHeld hbn
   have hHeld:=hHeld1
   clear hHeld1
   try simp only [sX]
   refine wpAnyH_ready (rs:=[7]) (by kernel_rfl) (by simp) ?_
   refine (AllReadyH.cons rfl (fun K hK => ?_) AllReadyH.nil)
   go_simp
   refine (HC1.out wan0 hHeld).mono ?_
   rintro e wan01 ⟨rfl,hbn⟩
   try go_simp
   have hz:=(hbn.block gz (Array.getElem?_eq_some_iff.1 hz).1).trans hz
   refine hK.out _ _ (hHeld.trans (hbn.mono hHeld.size)) (fun hHeld1 => ?_)
   clear hK K hHeld hbn
   have hHeld:=hHeld1
   clear hHeld1
   try simp only [sX]
   refine wpAnyH_ready (rs:=[12]) (by kernel_rfl) (by simp) ?_
   refine (AllReadyH.cons rfl (fun K hK => ?_) AllReadyH.nil)
   go_simp
   refine (HC2.out wan01 hHeld).mono ?_
   rintro e wan012 ⟨rfl,hbn⟩
   try go_simp
   have hz:=(hbn.block gz (Array.getElem?_eq_some_iff.1 hz).1).trans hz
   refine hK.out _ _ (hHeld.trans (hbn.mono hHeld.size)) (fun hHeld1 => ?_)
   clear hK K hHeld hbn
   have hHeld:=hHeld1
   clear hHeld1
   try simp only [sX]
   refine wpAnyH_ready (rs:=[17]) (by kernel_rfl) (by simp) ?_
   refine (AllReadyH.cons rfl (fun K hK => ?_) AllReadyH.nil)
   go_simp
   refine (HC3.out wan012 hHeld).mono ?_
   rintro e wan0123 ⟨rfl,hbn⟩
   try go_simp
   have hz:=(hbn.block gz (Array.getElem?_eq_some_iff.1 hz).1).trans hz
   refine hK.out _ _ (hHeld.trans (hbn.mono hHeld.size)) (fun hHeld1 => ?_)
   clear hK K hHeld hbn
   have hHeld:=hHeld1
   clear hHeld1
   try simp only [sX]
   refine wpAnyH_ready (rs:=[22]) (by kernel_rfl) (by simp) ?_
   refine (AllReadyH.cons rfl (fun K hK => ?_) AllReadyH.nil)
   go_simp
   refine (HC4.out wan0123 hHeld).mono ?_
   rintro e wan01234 ⟨rfl,hbn⟩
   try go_simp
   have hz:=(hbn.block gz (Array.getElem?_eq_some_iff.1 hz).1).trans hz
   refine hK.out _ _ (hHeld.trans (hbn.mono hHeld.size)) (fun hHeld1 => ?_)
   clear hK K hHeld hbn
   have hHeld:=hHeld1
   clear hHeld1
   try simp only [sX]
   refine wpAnyH_ready (rs:=[27]) (by kernel_rfl) (by simp) ?_
   refine (AllReadyH.cons rfl (fun K hK => ?_) AllReadyH.nil)
   go_simp
   refine (HC5.out wan01234 hHeld).mono ?_
   rintro e wan012345 ⟨rfl,hbn⟩
   try go_simp
   have hz:=(hbn.block gz (Array.getElem?_eq_some_iff.1 hz).1).trans hz
   refine hK.out _ _ (hHeld.trans (hbn.mono hHeld.size)) (fun hHeld1 => ?_)
   clear hK K hHeld hbn
   have hHeld:=hHeld1
   clear hHeld1
   try simp only [sX]
   refine wpAnyH_take (i:=28) (v:=.agg #[.int .i64 z0,.int .i64 z1,.int .i64 z2,.int .i64 z3,.int .i64 z4,.int .i64 z5]) rfl (by kernel_rfl) (by kernel_rfl) (by kernel_rfl) (fun _ _ _ h => h) (Or.inl ⟨by kernel_rfl,fun _ hS => by kernel_rfl⟩) hHeld ?_
   try simp only [sX]
   refine wpAnyH_ready (rs:=[30]) (by kernel_rfl) (by simp) ?_
   refine (AllReadyH.cons rfl (fun K hK => ?_) AllReadyH.nil)
   rw [if_pos (wanted_none rfl)]
   refine wp_store_row 79 _ _ rfl gz #[.int .i64 z0,.int .i64 z1,.int .i64 z2,.int .i64 z3,.int .i64 z4,.int .i64 z5] rfl rfl 79 #[.int .i64 0,.int .i64 0,.int .i64 0,.int .i64 0,.int .i64 0,.int .i64 0] hz (by kernel_rfl) rfl (by kernel_rfl) ?_
   have hr5:=setRow_heap wan012345 gz #[.int .i64 0,.int .i64 0,.int .i64 0,.int .i64 0,.int .i64 0,.int .i64 0] #[.int .i64 z0,.int .i64 z1,.int .i64 z2,.int .i64 z3,.int .i64 z4,.int .i64 z5] 79 (0,0) hz
   have hbr:=below_row hHeld hgl #[.int .i64 z0,.int .i64 z1,.int .i64 z2,.int .i64 z3,.int .i64 z4,.int .i64 z5]
   obtain ⟨wf,hwf⟩ : ∃ x,x = wan012345.setRow gz #[.int .i64 z0,.int .i64 z1,.int .i64 z2,.int .i64 z3,.int .i64 z4,.int .i64 z5]:=⟨_,rfl⟩
   rw [← hwf] at hr5 hbr ⊢
   clear hwf
   refine hK.out _ _ hbr (fun hHeld1 => ?_)
   clear hK K hHeld
   have hHeld:=hHeld1
   clear hHeld1
   try simp only [sX]
   have HE:=Lib.hid (And.intro hbr hr5)
   clear hbr hr5 hz hgl
   refine wpAnyH_done (by kernel_rfl) ?_ _
   clear hHeld
   go_wp2_with fail
   exact HK.out _ gz _ _ _ _ _ _ _ _ _ _ _ _ _ _ _ _ _ _ _ _ _ _ _ _ _ _ _ _ _ _ _ _ _ _ _ _ _ _ _ _ _ _ _ _ _ _ _ _ _ _ _ _ _ _ _ _ _ _ _ _ _ _ _ _ _ _ _ _ _ _ _ _ _ _ _ _ _ _ _ _ _ _ _ _ _ _ _ _ _ _ _ _ _ _ _ _ _ _ _ _ _ _ _ _ _ _ _ _ _ _ _ _ _ _ _ _ _ _ _ _ _ _ _ _ _ _ _ _ _ _ _ _ _ _ _ _ _ _ _ _ _ _ _ _ _ _ HE.out.1 HE.out.2
end Go.Proofs.Ytbkmnboicihchaa
