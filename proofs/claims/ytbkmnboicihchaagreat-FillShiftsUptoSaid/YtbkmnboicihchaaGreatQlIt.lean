/- law 28's Build,from region 3 on,and whole. law 28's awake: a corner that goes its way,and one that falls out. -/
import Derived.Test.YtbkmnboicihchaaGreatQkM
import Derived.Test.YtbkmnboicihchaaGreatXtQiIq0Is
import Derived.Test.YtbkmnboicihchaaGreatStSqXaNmVr
import Derived.Test.YtbkmnboicihchaaGreatFjQbFkGtDpFl
namespace Go.Proofs.YtbkmnboicihchaaGreat
set_option maxRecDepth 100000
set_option maxHeartbeats 8000000
set_option linter.unusedSimpArgs false
set_option linter.unusedVariables false
open Go Go.RowKit Go.Shelf Go.Maps
theorem mod10 {R Ra : Nat} (hRa : Ra = R % 10) : ((R : Int).tmod 10) = ((Ra : Nat) : Int):=by rw [Int.tmod_eq_emod_of_nonneg (by omega)]; omega
theorem wrap_lt {R : Nat} (hR : R < 256) : wrap64 (R : Int) = R:=by unfold wrap64; omega
theorem bld_3_7 : fromRegion 7 (fromRegion 3 buildC) = fromRegion 7 buildC:=by kernel_rfl
theorem ShZ.lower {W : World} {lo lo' s p q ce na n : Nat} {L M : IL} {C : List (Ad × Ct)} {Zr Zc Zs : Nat → Prop} (h : ShZ W lo s p q ce na n L M C Zr Zc Zs) (hl : lo' ≤ lo) : ShZ W lo' s p q ce na n L M C Zr Zc Zs :=
 ⟨h.own,h.rows,h.cols,h.cells,h.names,Nat.le_trans hl h.los,fun b hb => Nat.le_trans hl (h.loz b hb),h.sn,h.dis,⟨h.lt.1,h.lt.2.1,Nat.le_trans hl h.lt.2.2⟩⟩
theorem StZ.small {W : World} {p n : Nat} {M : List (Ad × Ct)} {Z : Nat → Prop} (h : StZ W p n M Z) : StZ W p n M (fun b => Z b ∧ b < W.heap.size):=by
 obtain ⟨m,D,T,h1,h3,h4,h5,h6⟩:=h
 refine ⟨m,D,T,h1,h3,⟨h4,(Array.getElem?_eq_some_iff.1 h1.1).1⟩,fun b e => ⟨h5 b e,?_⟩,fun b hb => ⟨⟨(h6 b hb).1,(h6 b hb).2.2.2⟩,(h6 b hb).2⟩⟩
 subst e
 have h2 : W.ownsMap Tryz.prog 36 heldR b n D:=h1.2
 obtain ⟨x,y,z,-⟩:=h2
 exact (Array.getElem?_eq_some_iff.1 z).1
theorem ShZ.small {W : World} {lo s p q ce na n : Nat} {L M : IL} {C : List (Ad × Ct)} {Zr Zc Zs : Nat → Prop} (h : ShZ W lo s p q ce na n L M C Zr Zc Zs) : ShZ W lo s p q ce na n L M C Zr Zc (fun b => Zs b ∧ b < W.heap.size) :=
 ⟨h.own,h.rows,h.cols,h.cells.small,h.names,h.los,fun b hb => h.loz b (hb.imp id (fun h => h.imp id And.left)),⟨h.sn.1,h.sn.2.1,fun h' => h.sn.2.2 h'.1⟩,fun b => ⟨fun hb => ⟨((h.dis b).1 hb).1,fun h' => ((h.dis b).1 hb).2 h'.1⟩,fun hb h' => (h.dis b).2 hb h'.1⟩,⟨h.lt.1,⟨h.lt.2.1.1,h.lt.2.1.2.1,fun h' => h.lt.2.1.2.2 h'.1⟩,h.lt.2.2⟩⟩
theorem bld3 (u0 u2 u3 u4 u5 u6 u7 u8 u9 u10 u11 u12 u13 u14 u15 u16 u17 u18 u19 u20 u21 u22 u23 u24 u25 u26 u27 u28 u29 u30 u31 u32 u33 u34 u35 u36 u37 u38 u39 u40 u41 u42 u43 u44 u45 u46 u47 u48 u49 u50 u51 u52 u53 u54 u55 u56 u57 u58 u59 u60 u61 u62 u63 u64 u65 u66 u67 u68 u69 u70 u71 u72 u73 u74 u75 u76 u77 u78 u79 u80 u81 u82 u83 u84 u85 u86 u87 u88 u89 u90 u91 u92 u93 u94 u95 u96 u97 u98 u99 u100 u101 u102 u103 u104 u105 u106 u107 u108 u109 u110 u111 u112 u113 u114 u115 u116 u117 u118 u119 u120 u121 u122 u123 u124 u125 u126 u127 u128 u129 u130 u131 u132 u133 u134 : Value) (P : Pn) (w W : World) (g R K Ra Ka : Nat) (Adx : Option Addr) (cd : Nat) (Acx : Option Addr) (cc : Nat)
   (hR : Ra = P.rows % 10) (hK : Ka = P.cols % 10) (hRa : Ra = R % 10) (hKa : Ka = K % 10) (hR8 : R < 256) (hK8 : K < 256) (hbw : Below w.heap.size w W) (hd : AdSl w w.heap.size Adx cd P.dead) (hnd : P.dead.length ≤ 20) (hce : ACSl w w.heap.size Acx cc P.cells) (hnc : P.cells.length ≤ 40) (hg : g < W.heap.size) (c0 : W.cell? ⟨g,0,none⟩ = some (.int .u8 R)) (c1 : W.cell? ⟨g,1,none⟩ = some (.int .u8 K)) (hgc : W.cell? ⟨g,2,none⟩ = some (.slice Adx P.dead.length cd)) (hgc3 : W.cell? ⟨g,3,none⟩ = some (.slice Acx P.cells.length cc)) :
   (fromRegion 3 buildC).wp Tryz.prog (bodyPost Tryz.prog Tryz.f5 (BuiltPost P w)) ⟨#[u0,.pointer (some ⟨g,0,none⟩),u2,u3,u4,u5,u6,u7,u8,u9,u10,u11,u12,u13,u14,u15,u16,u17,u18,u19,u20,u21,u22,u23,u24,u25,u26,u27,u28,u29,u30,u31,u32,u33,u34,u35,u36,u37,u38,u39,u40,u41,u42,u43,u44,u45,u46,u47,u48,u49,u50,u51,u52,u53,u54,u55,u56,u57,u58,u59,u60,u61,u62,u63,u64,u65,u66,u67,u68,u69,u70,u71,u72,u73,u74,u75,u76,u77,u78,u79,u80,u81,u82,u83,u84,u85,u86,u87,u88,u89,u90,u91,u92,u93,u94,u95,u96,u97,u98,u99,u100,u101,u102,u103,u104,u105,u106,u107,u108,u109,u110,u111,u112,u113,u114,u115,u116,u117,u118,u119,u120,u121,u122,u123,u124,u125,u126,u127,u128,u129,u130,u131,u132,u133,u134],[]⟩ W:=by
 have hR9 : Ra ≤ 9:=by omega
 have hK9 : Ka ≤ 9:=by omega
 dsimp only
 have e7:=cut_from 7 (fromRegion 3 buildC)
 rw [bld_3_7] at e7
 obtain ⟨CO,hCO⟩ : ∃ CO,CO = fromRegion 7 buildC:=⟨_,rfl⟩
 rw [← hCO] at e7
 have HCO:=Lib.hid hCO
 clear hCO
 obtain ⟨lo,hlo⟩ : ∃ lo,lo = W.heap.size:=⟨_,rfl⟩
 have hend : ∀ (wr : World) (s p q ce na : Nat) (Zr Zc Zs : Nat → Prop) (u0 u3 u4 u5 u8 u9 u10 u11 u12 u13 u14 u15 u16 u17 u18 u19 u20 u21 u22 u23 u24 u25 u26 u27 u28 u29 u30 u31 u32 u33 u34 u35 u36 u37 u38 u39 u40 u41 u42 u43 u44 u45 u46 u47 u48 u49 u50 u51 u52 u53 u54 u55 u56 u57 u58 u59 u60 u61 u62 u63 u64 u65 u66 u67 u68 u69 u70 u71 u72 u73 u74 u75 u76 u77 u78 u79 u80 u81 u82 u83 u84 u85 u86 u87 u88 u89 u90 u91 u92 u93 u94 u95 u96 u97 u98 u99 u100 u101 u102 u103 u104 u105 u106 u107 u108 u109 u110 u111 u112 u113 u114 u115 u116 u117 u118 u119 u120 u121 u122 u123 u124 u125 u126 u127 u128 u129 u130 u131 u132 u133 u134 : Value),ShZ wr lo s p q ce na 0 (allL (freshL Ra)) (allL (freshL Ka)) [] Zr Zc Zs → Below lo W wr → CO.wp Tryz.prog (bodyPost Tryz.prog Tryz.f5 (BuiltPost P w)) ⟨#[u0,.pointer (some ⟨g,0,none⟩),.pointer (some ⟨s,0,none⟩),u3,u4,u5,.int .i64 (Ra : Nat),.int .i64 (Ka : Nat),u8,u9,u10,u11,u12,u13,u14,u15,u16,u17,u18,u19,u20,u21,u22,u23,u24,u25,u26,u27,u28,u29,u30,u31,u32,u33,u34,u35,u36,u37,u38,u39,u40,u41,u42,u43,u44,u45,u46,u47,u48,u49,u50,u51,u52,u53,u54,u55,u56,u57,u58,u59,u60,u61,u62,u63,u64,u65,u66,u67,u68,u69,u70,u71,u72,u73,u74,u75,u76,u77,u78,u79,u80,u81,u82,u83,u84,u85,u86,u87,u88,u89,u90,u91,u92,u93,u94,u95,u96,u97,u98,u99,u100,u101,u102,u103,u104,u105,u106,u107,u108,u109,u110,u111,u112,u113,u114,u115,u116,u117,u118,u119,u120,u121,u122,u123,u124,u125,u126,u127,u128,u129,u130,u131,u132,u133,u134],[]⟩ wr:=by
   intro wr s p q ce na Zr Zc Zs u0 u3 u4 u5 u8 u9 u10 u11 u12 u13 u14 u15 u16 u17 u18 u19 u20 u21 u22 u23 u24 u25 u26 u27 u28 u29 u30 u31 u32 u33 u34 u35 u36 u37 u38 u39 u40 u41 u42 u43 u44 u45 u46 u47 u48 u49 u50 u51 u52 u53 u54 u55 u56 u57 u58 u59 u60 u61 u62 u63 u64 u65 u66 u67 u68 u69 u70 u71 u72 u73 u74 u75 u76 u77 u78 u79 u80 u81 u82 u83 u84 u85 u86 u87 u88 u89 u90 u91 u92 u93 u94 u95 u96 u97 u98 u99 u100 u101 u102 u103 u104 u105 u106 u107 u108 u109 u110 u111 u112 u113 u114 u115 u116 u117 u118 u119 u120 u121 u122 u123 u124 u125 u126 u127 u128 u129 u130 u131 u132 u133 u134 h1 h3
   rw [HCO.out]
   have hwl : w.heap.size ≤ lo:=by rw [hlo]; exact hbw.size
   have hbwr : Below w.heap.size w wr:=hbw.trans (h3.mono hwl)
   have hgl : g < lo:=by rw [hlo]; exact hg
   have hsz : lo ≤ wr.heap.size:=by rw [hlo]; exact h3.size
   have h1:=h1.small
   refine bld7 u0 u3 u4 u5 u8 u9 u10 u11 u12 u13 u14 u15 u16 u17 u18 u19 u20 u21 u22 u23 u24 u25 u26 u27 u28 u29 u30 u31 u32 u33 u34 u35 u36 u37 u38 u39 u40 u41 u42 u43 u44 u45 u46 u47 u48 u49 u50 u51 u52 u53 u54 u55 u56 u57 u58 u59 u60 u61 u62 u63 u64 u65 u66 u67 u68 u69 u70 u71 u72 u73 u74 u75 u76 u77 u78 u79 u80 u81 u82 u83 u84 u85 u86 u87 u88 u89 u90 u91 u92 u93 u94 u95 u96 u97 u98 u99 u100 u101 u102 u103 u104 u105 u106 u107 u108 u109 u110 u111 u112 u113 u114 u115 u116 u117 u118 u119 u120 u121 u122 u123 u124 u125 u126 u127 u128 u129 u130 u131 u132 u133 u134 P w wr (BuiltPost P w) g s p q ce na 0 Ra Ka lo (allL (freshL Ra)) (allL (freshL Ka)) Zr Zc _ Adx cd Acx cc hbwr hd hnd hce hnc hwl hgl ((World.cell?_of_block (a:=⟨g,2,none⟩) (h3.block g hgl)).trans hgc) ((World.cell?_of_block (a:=⟨g,3,none⟩) (h3.block g hgl)).trans hgc3) h1 hsz (fun _ h => h.2) (fresh_Ok (Nat.le_trans hR9 (by decide))) (fresh_Ok (Nat.le_trans hK9 (by decide))) hR9 hK9 ?_ ?_
   · intro W' hb
     exact .inl ⟨rfl,hbwr.trans (hb.mono hwl)⟩
   · intro W' n' C' Zs' A1 c1 A2 c2 k1 k2 k3 k4
     rw [hR] at k1 k2
     rw [hK] at k1 k3
     rw [hR,hK]
     exact .inr ⟨s,p,q,ce,na,n',A1,c1,A2,c2,C',Zr,Zc,Zs',rfl,k1.lower hwl,own_le k2 hwl,own_le k3 hwl,hbwr.trans (k4.mono hwl)⟩
 dsimp only at hend
 have hrm:=mod10 hRa
 have hkm:=mod10 hKa
 have hwr:=wrap_lt hR8
 have hwk:=wrap_lt hK8
 have hwr2:=wrap_lt (Nat.lt_of_le_of_lt hR9 (by decide))
 have hwk2:=wrap_lt (Nat.lt_of_le_of_lt hK9 (by decide))
 have HEND:=Lib.hid hend
 have HNEW:=Lib.hid (fun (wx : World) => sheetNewZ_c wx Ra Ka (Nat.le_trans hR9 (by decide)) (Nat.le_trans hK9 (by decide)))
 have HLO:=Lib.hid hlo
 have d0 : W.drew.cell? ⟨g,0,none⟩ = some (.int .u8 R):=c0
 have d1 : W.drew.cell? ⟨g,1,none⟩ = some (.int .u8 K):=c1
 clear hend hbw hd hnd hce hnc hg hgc hgc3 hR hK hlo hR9 hK9 hRa hKa
 rw [← e7]
 clear e7
 conv => arg 2; whnf; repeat (arg 2; whnf)
 go_upto_region 3 with (fail)
 go_big_quiet (fail)
 go_upto_region 4 with (fail)
 go_upto_region 5 with (first | (go_at_call 13; refine (HNEW.out _).mono ?_; rintro e w2 ⟨s,p,q,ce,na,Zr,Zc,Zs,rfl,hsh,hb2⟩; have HSH:=Lib.hid (And.intro hsh hb2); clear hsh hb2) | fail)
 have d2:=cell_of_row _ _ 0 _ _ _ HSH.out.1.own
 have d3:=cell_of_row _ _ 1 _ _ _ HSH.out.1.own
 have d4:=cell_of_row _ _ 2 _ _ _ HSH.out.1.own
 go_wp2_with (fail)
 refine HEND.out _ s p q ce na Zr Zc Zs _ _ _ _ _ _ _ _ _ _ _ _ _ _ _ _ _ _ _ _ _ _ _ _ _ _ _ _ _ _ _ _ _ _ _ _ _ _ _ _ _ _ _ _ _ _ _ _ _ _ _ _ _ _ _ _ _ _ _ _ _ _ _ _ _ _ _ _ _ _ _ _ _ _ _ _ _ _ _ _ _ _ _ _ _ _ _ _ _ _ _ _ _ _ _ _ _ _ _ _ _ _ _ _ _ _ _ _ _ _ _ _ _ _ _ _ _ _ _ _ _ _ _ _ _ _ _ _ _ _ _ (by rw [HLO.out]; exact HSH.out.1) (by rw [HLO.out]; exact (⟨rfl,rfl,rfl,Nat.le_refl _,fun _ _ => rfl⟩ : Below W.heap.size W (W.drewN nq)).trans HSH.out.2)
theorem build_c (P : Pn) (w : World) (Adx : Option Addr) (cd : Nat) (Acx : Option Addr) (cc : Nat) (hr : P.rows < 256) (hc : P.cols < 256) (hd : AdSl w w.heap.size Adx cd P.dead) (hce : ACSl w w.heap.size Acx cc P.cells) :
   Calls Tryz.prog 5 #[.agg (P.val Adx cd Acx cc)] w (BuiltPost P w):=by
 obtain ⟨g,hg⟩ : ∃ g,g = w.heap.size:=⟨_,rfl⟩
 obtain ⟨W,hW⟩ : ∃ W,W = w.alloc (.cells (P.val Adx cd Acx cc) 41):=⟨_,rfl⟩
 have hb : Below w.heap.size w W:=by rw [hW]; exact (Below.refl _ w).alloc (Nat.le_refl _) _
 have hk : W.heap[g]? = some (.cells (P.val Adx cd Acx cc) 41):=by rw [hW,hg]; exact heap_alloc_new _ _
 have hgW : g < W.heap.size:=(Array.getElem?_eq_some_iff.1 hk).1
 have c0 : W.cell? ⟨g,0,none⟩ = some (.int .u8 P.rows):=cell_of_row _ _ 0 _ _ _ hk
 have c1 : W.cell? ⟨g,1,none⟩ = some (.int .u8 P.cols):=cell_of_row _ _ 1 _ _ _ hk
 have c2 : W.cell? ⟨g,2,none⟩ = some (.slice Adx P.dead.length cd):=cell_of_row _ _ 2 _ _ _ hk
 have c3 : W.cell? ⟨g,3,none⟩ = some (.slice Acx P.cells.length cc):=cell_of_row _ _ 3 _ _ _ hk
 have hcd : P.dead.length ≤ cd ∧ cd ≤ 9223372036854775807:=⟨hd.1,hd.2.1⟩
 have hccx : P.cells.length ≤ cc ∧ cc ≤ 9223372036854775807:=⟨hce.1,hce.2.1⟩
 have H3 : P.dead.length ≤ 20 → P.cells.length ≤ 40 → Hid (∀ (u0 u2 u3 u4 u5 u6 u7 u8 u9 u10 u11 u12 u13 u14 u15 u16 u17 u18 u19 u20 u21 u22 u23 u24 u25 u26 u27 u28 u29 u30 u31 u32 u33 u34 u35 u36 u37 u38 u39 u40 u41 u42 u43 u44 u45 u46 u47 u48 u49 u50 u51 u52 u53 u54 u55 u56 u57 u58 u59 u60 u61 u62 u63 u64 u65 u66 u67 u68 u69 u70 u71 u72 u73 u74 u75 u76 u77 u78 u79 u80 u81 u82 u83 u84 u85 u86 u87 u88 u89 u90 u91 u92 u93 u94 u95 u96 u97 u98 u99 u100 u101 u102 u103 u104 u105 u106 u107 u108 u109 u110 u111 u112 u113 u114 u115 u116 u117 u118 u119 u120 u121 u122 u123 u124 u125 u126 u127 u128 u129 u130 u131 u132 u133 u134 : Value),(fromRegion 3 buildC).wp Tryz.prog (bodyPost Tryz.prog Tryz.f5 (BuiltPost P w)) ⟨#[u0,.pointer (some ⟨g,0,none⟩),u2,u3,u4,u5,u6,u7,u8,u9,u10,u11,u12,u13,u14,u15,u16,u17,u18,u19,u20,u21,u22,u23,u24,u25,u26,u27,u28,u29,u30,u31,u32,u33,u34,u35,u36,u37,u38,u39,u40,u41,u42,u43,u44,u45,u46,u47,u48,u49,u50,u51,u52,u53,u54,u55,u56,u57,u58,u59,u60,u61,u62,u63,u64,u65,u66,u67,u68,u69,u70,u71,u72,u73,u74,u75,u76,u77,u78,u79,u80,u81,u82,u83,u84,u85,u86,u87,u88,u89,u90,u91,u92,u93,u94,u95,u96,u97,u98,u99,u100,u101,u102,u103,u104,u105,u106,u107,u108,u109,u110,u111,u112,u113,u114,u115,u116,u117,u118,u119,u120,u121,u122,u123,u124,u125,u126,u127,u128,u129,u130,u131,u132,u133,u134],[]⟩ W):=fun h1 h2 => Lib.hid (fun u0 u2 u3 u4 u5 u6 u7 u8 u9 u10 u11 u12 u13 u14 u15 u16 u17 u18 u19 u20 u21 u22 u23 u24 u25 u26 u27 u28 u29 u30 u31 u32 u33 u34 u35 u36 u37 u38 u39 u40 u41 u42 u43 u44 u45 u46 u47 u48 u49 u50 u51 u52 u53 u54 u55 u56 u57 u58 u59 u60 u61 u62 u63 u64 u65 u66 u67 u68 u69 u70 u71 u72 u73 u74 u75 u76 u77 u78 u79 u80 u81 u82 u83 u84 u85 u86 u87 u88 u89 u90 u91 u92 u93 u94 u95 u96 u97 u98 u99 u100 u101 u102 u103 u104 u105 u106 u107 u108 u109 u110 u111 u112 u113 u114 u115 u116 u117 u118 u119 u120 u121 u122 u123 u124 u125 u126 u127 u128 u129 u130 u131 u132 u133 u134 => bld3 u0 u2 u3 u4 u5 u6 u7 u8 u9 u10 u11 u12 u13 u14 u15 u16 u17 u18 u19 u20 u21 u22 u23 u24 u25 u26 u27 u28 u29 u30 u31 u32 u33 u34 u35 u36 u37 u38 u39 u40 u41 u42 u43 u44 u45 u46 u47 u48 u49 u50 u51 u52 u53 u54 u55 u56 u57 u58 u59 u60 u61 u62 u63 u64 u65 u66 u67 u68 u69 u70 u71 u72 u73 u74 u75 u76 u77 u78 u79 u80 u81 u82 u83 u84 u85 u86 u87 u88 u89 u90 u91 u92 u93 u94 u95 u96 u97 u98 u99 u100 u101 u102 u103 u104 u105 u106 u107 u108 u109 u110 u111 u112 u113 u114 u115 u116 u117 u118 u119 u120 u121 u122 u123 u124 u125 u126 u127 u128 u129 u130 u131 u132 u133 u134 P w W g P.rows P.cols (P.rows % 10) (P.cols % 10) Adx cd Acx cc rfl rfl rfl rfl hr hc hb hd h1 hce h2 hgW c0 c1 c2 c3)
 obtain ⟨nd,hnd⟩ : ∃ n,n = P.dead.length:=⟨_,rfl⟩
 obtain ⟨nc,hnc⟩ : ∃ n,n = P.cells.length:=⟨_,rfl⟩
 rw [← hnd] at c2 hcd H3
 rw [← hnc] at c3 hccx H3
 obtain ⟨hcd1,hcd2⟩:=hcd
 obtain ⟨hcc1,hcc2⟩:=hccx
 obtain ⟨PV,hPV⟩ : ∃ PV,PV = P.val Adx cd Acx cc:=⟨_,rfl⟩
 rw [← hPV] at hW hk ⊢
 have HZ : ∀ w',Below w.heap.size w w' → BuiltPost P w (.returned (.tuple #[.pointer none,.slice none 0 0,.slice none 0 0,.int .i64 0])) w':=fun w' h => .inl ⟨rfl,h⟩
 have HG:=Lib.hid hg
 have HW:=Lib.hid hW
 have HZ:=Lib.hid HZ
 have HB:=Lib.hid hb
 have H3:=Lib.hid H3
 clear hnd hnc hd hce hg hW hk hPV hgW hr hc hb
 by_cases hn1 : (40 : Int) < nc
 · go_enter Tryz.func5,Tryz.ntmps5
   go_upto_region 1 with (fail)
   rw [← HW.out,← HG.out]
   go_wp2
   refine bodyPost_ret (v:=.tuple #[.pointer none,.slice none 0 0,.slice none 0 0,.int .i64 0]) (results_tmp4 (a:=2) (b:=3) (c:=4) (d:=5) rfl _ _) rfl ?_
   exact HZ.out _ HB.out
 by_cases hn2 : (20 : Int) < nd
 · go_enter Tryz.func5,Tryz.ntmps5
   go_upto_region 1 with (fail)
   rw [← HW.out,← HG.out]
   go_wp2
   refine bodyPost_ret (v:=.tuple #[.pointer none,.slice none 0 0,.slice none 0 0,.int .i64 0]) (results_tmp4 (a:=2) (b:=3) (c:=4) (d:=5) rfl _ _) rfl ?_
   exact HZ.out _ HB.out
 have H4:=H3.out (by omega) (by omega)
 clear H3
 go_enter Tryz.func5,Tryz.ntmps5
 have e3:=cut_from 3 buildC
 obtain ⟨C,hC⟩ : ∃ C,C = fromRegion 3 buildC:=⟨_,rfl⟩
 rw [← hC] at e3
 have HC:=Lib.hid hC
 clear hC
 change Code.wp Tryz.prog buildC _ _ _
 rw [← e3]
 clear e3
 conv => arg 2; whnf; repeat (arg 2; whnf)
 go_upto_region 1 with (fail)
 rw [← HW.out,← HG.out]
 go_wp2_with (fail)
 rw [HC.out]
 exact H4.out _ _ _ _ _ _ _ _ _ _ _ _ _ _ _ _ _ _ _ _ _ _ _ _ _ _ _ _ _ _ _ _ _ _ _ _ _ _ _ _ _ _ _ _ _ _ _ _ _ _ _ _ _ _ _ _ _ _ _ _ _ _ _ _ _ _ _ _ _ _ _ _ _ _ _ _ _ _ _ _ _ _ _ _ _ _ _ _ _ _ _ _ _ _ _ _ _ _ _ _ _ _ _ _ _ _ _ _ _ _ _ _ _ _ _ _ _ _ _ _ _ _ _ _ _ _ _ _ _ _ _ _ _ _
end Go.Proofs.YtbkmnboicihchaaGreat
namespace Go.Proofs.YtbkmnboicihchaaGreat
set_option maxRecDepth 100000
set_option maxHeartbeats 4000000
set_option linter.unusedSimpArgs false
set_option linter.unusedVariables false
open Go Go.RowKit Go.Shelf Go.Maps Go.Sort
instance (x : Ik) : Decidable x.ok:=by unfold Ik.ok i64; infer_instance
def l3 : List Ik:=[⟨0,1⟩,⟨0,2⟩,⟨0,3⟩]
theorem l3_Ok : (allL l3).Ok:=allL_Ok (by decide) (by decide) (by decide) (by decide)
theorem shift_one : shiftT (allL l3).alive (allL l3).alive ⟨⟨0,1⟩,⟨0,1⟩⟩ ⟨⟨0,2⟩,⟨0,3⟩⟩ (.mk (oneD 0 1 0 1) []) = .mk (oneD 0 2 0 3) []:=by
 rw [allL_alive,shiftT_of (d:=1) (r:=2) (by decide) (by decide),goneT_mk]
 rfl
theorem shift_two : shiftT (allL l3).alive (allL l3).alive ⟨⟨0,1⟩,⟨0,1⟩⟩ ⟨⟨0,2⟩,⟨0,1⟩⟩ (.mk (oneD 0 3 0 1) []) = .mk lostND []:=by
 rw [allL_alive,shiftT_of (d:=1) (r:=0) (by decide) (by decide),goneT_mk]
 rfl
theorem oneD_ok (a b : Int) (ha : i64 a) (hb : i64 b) : (oneD 0 a 0 b).ok:=by
 refine ⟨?_,⟨?_,?_,?_,?_,?_⟩,?_,⟨?_,?_,?_,?_⟩,⟨?_,?_,?_,?_⟩,?_⟩ <;> first | exact ha | exact hb | (simp only [oneD]; decide)
structure Inv28 (w : World) (p : Nat) (l : List (Nat × Array Value)) (wr : World) : Prop where
 below : Below w.heap.size w wr
 le : w.heap.size ≤ p
 ax : AxW wr p (allL l3)
 laid : ∀ x ∈ l,wr.heap[x.1]? = some (.cells x.2 34)
theorem Inv28.next {w wr w' : World} {p : Nat} {l : List (Nat × Array Value)} (h : Inv28 w p l wr) (hb : Below wr.heap.size wr w') : Inv28 w p l w' :=
 ⟨h.below.trans (hb.mono h.below.size),h.le,h.ax.below hb,fun x hx => (hb.block _ (Array.getElem?_eq_some_iff.1 (h.laid x hx)).1).trans (h.laid x hx)⟩
theorem Inv28.shift {w wr w' : World} {p : Nat} {l : List (Nat × Array Value)} (h : Inv28 w p l wr) (hp : AxRd w' p (allL l3)) (hk : KeepQ p p wr w') : Inv28 w p l w':=by
 obtain ⟨cs,hcs,-⟩:=h.ax.short
 refine ⟨⟨hk.os.trans h.below.os,hk.tape.trans h.below.tape,hk.output.trans h.below.output,Nat.le_trans h.below.size hk.size,fun b hb => (hk.block b (Nat.lt_of_lt_of_le hb h.below.size) (by have:=h.le; omega) (by have:=h.le; omega)).trans (h.below.block b hb)⟩,h.le,.inl hp,fun x hx => ?_⟩
 have hne : x.1 ≠ p:=fun e => by
   have h1:=h.laid x hx
   rw [e,hcs] at h1
   simp only [Option.some.injEq,Obj.cells.injEq] at h1
   exact absurd h1.2.1 (by decide)
 exact (hk.block _ (Array.getElem?_eq_some_iff.1 (h.laid x hx)).1 hne hne).trans (h.laid x hx)
theorem Inv28.lay {w wr : World} {p : Nat} {l : List (Nat × Array Value)} (h : Inv28 w p l wr) (Z X : Array Value) : Inv28 w p ((wr.heap.size,X) :: l) ((wr.alloc (.cells Z 34)).setRow wr.heap.size X):=by
 have hb : Below wr.heap.size wr ((wr.alloc (.cells Z 34)).setRow wr.heap.size X):=below_row ((Below.refl _ wr).alloc (Nat.le_refl _) _) (Nat.le_refl _) _
 have h':=h.next hb
 refine ⟨h'.below,h'.le,h'.ax,fun x hx => ?_⟩
 rcases List.mem_cons.1 hx with rfl | hx
 · exact setRow_heap _ _ _ _ _ _ (heap_alloc_new _ _)
 · exact h'.laid x hx
theorem awake28_c (w : World) : Calls Tryz.prog 4 #[] w fun e w' => e = .returned (.bool true) ∧ Below w.heap.size w w':=by
 obtain ⟨W1,hW1⟩ : ∃ W1,W1 = w.alloc (.cells #[.int .i64 0,.int .i64 1,.int .i64 0,.int .i64 2,.int .i64 0,.int .i64 3] 27):=⟨_,rfl⟩
 have hb1 : Below w.heap.size w W1:=by rw [hW1]; exact (Below.refl _ w).alloc (Nat.le_refl _) _
 have hk1 : W1.heap[w.heap.size]? = some (.cells #[.int .i64 0,.int .i64 1,.int .i64 0,.int .i64 2,.int .i64 0,.int .i64 3] 27):=by rw [hW1]; exact heap_alloc_new _ _
 have hsl : IkSl W1 W1.heap.size (some ⟨w.heap.size,0,none⟩) 3 l3:=by
   refine ⟨by decide,by decide,.inr ⟨w.heap.size,0,rfl,(Array.getElem?_eq_some_iff.1 hk1).1,fun j hj i v hv => ?_⟩⟩
   match j,hj,i,hv with
   | 0,_,0,hv => rw [cell_of_row _ _ _ _ _ _ hk1]; exact hv
   | 0,_,1,hv => rw [cell_of_row _ _ _ _ _ _ hk1]; exact hv
   | 1,_,0,hv => rw [cell_of_row _ _ _ _ _ _ hk1]; exact hv
   | 1,_,1,hv => rw [cell_of_row _ _ _ _ _ _ hk1]; exact hv
   | 2,_,0,hv => rw [cell_of_row _ _ _ _ _ _ hk1]; exact hv
   | 2,_,1,hv => rw [cell_of_row _ _ _ _ _ _ hk1]; exact hv
 have HNEW:=Lib.hid (axNew_c W1 l3 (by decide) (by decide) (by decide) (by decide) (some ⟨w.heap.size,0,none⟩) 3 hsl)
 have HW1:=Lib.hid hW1
 have HB1:=Lib.hid hb1
 have HAT:=Lib.hid at28_c
 have HONE:=Lib.hid one28_c
 have HS1:=Lib.hid (fun (p : Nat) (wx : World) (h : AxW wx p (allL l3)) => shiftW_c h h (fun _ => rfl) l3_Ok l3_Ok (.mk (oneD 0 1 0 1) []) none 0 (oneD_ok 1 1 (by decide) (by decide)) ⟨Nat.le_refl _,by omega,.inl rfl⟩ (by decide) ⟨⟨0,1⟩,⟨0,1⟩⟩ ⟨⟨0,2⟩,⟨0,3⟩⟩ (by decide) (by decide))
 have HS2:=Lib.hid (fun (p : Nat) (wx : World) (h : AxW wx p (allL l3)) => shiftW_c h h (fun _ => rfl) l3_Ok l3_Ok (.mk (oneD 0 3 0 1) []) none 0 (oneD_ok 3 1 (by decide) (by decide)) ⟨Nat.le_refl _,by omega,.inl rfl⟩ (by decide) ⟨⟨0,1⟩,⟨0,1⟩⟩ ⟨⟨0,2⟩,⟨0,1⟩⟩ (by decide) (by decide))
 rw [shift_one] at HS1
 rw [shift_two] at HS2
 clear hW1 hb1 hk1 hsl
 go_enter Tryz.func4,Tryz.ntmps4
 go_upto_region 2 with (first | (go_at_call 10; rw [← HW1.out]; refine HNEW.out.mono ?_; rintro e w2 ⟨rfl,hN⟩; have HN:=Lib.hid hN; clear hN) | fail)
 obtain ⟨p,hp⟩ : ∃ p,p = W1.heap.size:=⟨_,rfl⟩
 rw [← hp]
 have hinv : Inv28 w p [] w2:=by
   obtain ⟨h1,h2⟩:=RNew.ax (l:=l3) HN.out
   rw [← hp] at h1 h2
   have hle : w.heap.size ≤ p:=by rw [hp]; exact HB1.out.size
   exact ⟨HB1.out.trans (h2.mono hle),hle,h1,fun x hx => by cases hx⟩
 have HC:=Lib.hid hinv
 clear hinv HN HNEW HW1 HB1 hp
 obtain ⟨N1,hN1⟩ : ∃ N,N = nodeA (oneD 0 1 0 1) none 0 0:=⟨_,rfl⟩
 obtain ⟨N2,hN2⟩ : ∃ N,N = nodeA (oneD 0 3 0 1) none 0 0:=⟨_,rfl⟩
 obtain ⟨N3,hN3⟩ : ∃ N,N = nodeA (oneD 0 2 0 3) none 0 0:=⟨_,rfl⟩
 have HN1:=Lib.hid (fun (wx : World) => show Calls Tryz.prog 11 #[.agg #[.int .i64 0,.int .i64 1,.int .i64 0,.int .i64 1]] wx fun e w' => e = .returned (.agg N1) ∧ Below wx.heap.size wx w' from by rw [hN1]; exact HONE.out wx 0 1 0 1)
 have HN2:=Lib.hid (fun (wx : World) => show Calls Tryz.prog 11 #[.agg #[.int .i64 0,.int .i64 3,.int .i64 0,.int .i64 1]] wx fun e w' => e = .returned (.agg N2) ∧ Below wx.heap.size wx w' from by rw [hN2]; exact HONE.out wx 0 3 0 1)
 have HN3:=Lib.hid (fun (wx : World) => show Calls Tryz.prog 11 #[.agg #[.int .i64 0,.int .i64 2,.int .i64 0,.int .i64 3]] wx fun e w' => e = .returned (.agg N3) ∧ Below wx.heap.size wx w' from by rw [hN3]; exact HONE.out wx 0 2 0 3)
 have HT1:=Lib.hid (fun (wx : World) (h : AxW wx p (allL l3)) => show Calls Tryz.prog 8 #[.agg N1,.agg #[.int .i64 0,.int .i64 1,.int .i64 0,.int .i64 1],.agg #[.int .i64 0,.int .i64 2,.int .i64 0,.int .i64 3],.pointer (some ⟨p,0,none⟩),.pointer (some ⟨p,0,none⟩)] wx (ShiftPost p p (allL l3) (allL l3) wx (Tr.mk (oneD 0 2 0 3) [])) from by rw [hN1]; exact HS1.out p wx h)
 have HT2:=Lib.hid (fun (wx : World) (h : AxW wx p (allL l3)) => show Calls Tryz.prog 8 #[.agg N2,.agg #[.int .i64 0,.int .i64 1,.int .i64 0,.int .i64 1],.agg #[.int .i64 0,.int .i64 2,.int .i64 0,.int .i64 1],.pointer (some ⟨p,0,none⟩),.pointer (some ⟨p,0,none⟩)] wx (ShiftPost p p (allL l3) (allL l3) wx (Tr.mk lostND [])) from by rw [hN2]; exact HS2.out p wx h)
 have HNO:=Lib.hid (show ∀ (d : ND) A c,(nodeA d A 0 c).size = 22 ∧ (nodeA d A 0 c).all (·.oneCell') = true from fun _ _ _ => ⟨rfl,node_one _ _ _ _⟩)
 have HN3':=Lib.hid hN3
 clear hN1 hN2 hN3 HONE HS1 HS2
 go_upto_region 3 with (first | (go_at_call 12; refine (HAT.out _ _ _).mono ?_; rintro e wn ⟨rfl,hb⟩; have HC':=Lib.hid (HC.out.next hb); clear HC hb; have HC:=HC'; clear HC') | (go_at_call 11; refine (HN1.out _).mono ?_; rintro e wn ⟨rfl,hb⟩; have HC':=Lib.hid (HC.out.next hb); clear HC hb; have HC:=HC'; clear HC') | (go_at_call 8; refine (HT1.out _ HC.out.ax).mono ?_; rintro e w3 ⟨A3,c3,rfl,-,hs3,hp3,-,hk3⟩; have HS3:=Lib.hid hs3.2.1; clear hs3; have HC':=Lib.hid (HC.out.shift hp3 hk3); clear HC hp3 hk3; have HC:=HC'; clear HC') | (refine wpList_nodeVar rfl rfl w3.heap.size rfl ?_) | (refine wpList_store_row rfl 34 _ _ rfl w3.heap.size (nodeA (oneD 0 2 0 3) A3 0 c3) rfl rfl 34 (nodeA zD none 0 0) (heap_alloc_new _ _) (infS (HNO.out _ _ _).1) rfl (HNO.out _ _ _).2 ?_) | fail)
 generalize nodeV (Tr.mk (oneD 0 2 0 3) []).d A3 (Tr.mk (oneD 0 2 0 3) []).l.length c3 = u18
 obtain ⟨X3,hX3⟩ : ∃ X3,X3 = nodeA (oneD 0 2 0 3) A3 0 c3:=⟨_,rfl⟩
 have HX3:=Lib.hid hX3
 have hC4:=HC.out.lay (nodeA zD none 0 0) X3
 rw [← hX3]
 obtain ⟨w4,hw4⟩ : ∃ w4,w4 = (w3.alloc (.cells (nodeA zD none 0 0) 34)).setRow w3.heap.size X3:=⟨_,rfl⟩
 obtain ⟨b3,hb3⟩ : ∃ b3,b3 = w3.heap.size:=⟨_,rfl⟩
 rw [← hw4,← hb3] at hC4
 change Code.wp _ _ _ _ ((w3.alloc (.cells (nodeA zD none 0 0) 34)).setRow w3.heap.size X3)
 rw [← hw4,← hb3]
 clear HC hX3 hw4 hb3 HN1 HT1
 have HC:=Lib.hid hC4
 clear hC4
 go_upto_region 4 with (first | (go_at_call 12; refine (HAT.out _ _ _).mono ?_; rintro e wn ⟨rfl,hb⟩; have HC':=Lib.hid (HC.out.next hb); clear HC hb; have HC:=HC'; clear HC') | (go_at_call 11; refine (HN2.out _).mono ?_; rintro e wn ⟨rfl,hb⟩; have HC':=Lib.hid (HC.out.next hb); clear HC hb; have HC:=HC'; clear HC') | (go_at_call 8; refine (HT2.out _ HC.out.ax).mono ?_; rintro e w5 ⟨A5,c5,rfl,-,-,hp3,-,hk3⟩; have HC':=Lib.hid (HC.out.shift hp3 hk3); clear HC hp3 hk3; have HC:=HC'; clear HC') | (refine wpList_nodeVar rfl rfl w5.heap.size rfl ?_) | (refine wpList_store_row rfl 34 _ _ rfl w5.heap.size (nodeA lostND A5 0 c5) rfl rfl 34 (nodeA zD none 0 0) (heap_alloc_new _ _) (infS (HNO.out _ _ _).1) rfl (HNO.out _ _ _).2 ?_) | fail)
 generalize nodeV (Tr.mk lostND []).d A5 (Tr.mk lostND []).l.length c5 = u25
 have hC6:=HC.out.lay (nodeA zD none 0 0) (nodeA lostND A5 0 c5)
 obtain ⟨w6,hw6⟩ : ∃ w6,w6 = (w5.alloc (.cells (nodeA zD none 0 0) 34)).setRow w5.heap.size (nodeA lostND A5 0 c5):=⟨_,rfl⟩
 obtain ⟨b5,hb5⟩ : ∃ b5,b5 = w5.heap.size:=⟨_,rfl⟩
 rw [← hw6,← hb5] at hC6
 change Code.wp _ _ _ _ ((w5.alloc (.cells (nodeA zD none 0 0) 34)).setRow w5.heap.size (nodeA lostND A5 0 c5))
 rw [← hw6,← hb5]
 have HC':=Lib.hid (show Below w.heap.size w w6 ∧ w6.heap[b3]? = some (.cells X3 34) ∧ w6.heap[b5]? = some (.cells (nodeA lostND A5 0 c5) 34) from ⟨hC6.below,hC6.laid (b3,X3) (by simp),hC6.laid (b5,nodeA lostND A5 0 c5) (by simp)⟩)
 clear HC hw6 hb5 HN2 HT2 hC6
 have HNEW:=Lib.hid (sheetNew_c w6 2 2 (by omega) (by omega))
 have HTAKE:=Lib.hid (fun (wx : World) (s p q ce na : Nat) (h : ShN wx s p q ce na (allL (freshL 2)) (allL (freshL 2))) => takeOut_c (x:=⟨q,0,none⟩) (y:=⟨ce,0,none⟩) (z:=⟨na,0,none⟩) h.own (fresh_Ok (by omega)) h.rows 0 0 3 1 (by rw [allL_alive,freshL_len]; decide))
 have HI3:=Lib.hid infB3
 go_upto_region 6 with (first | (go_at_call 13; refine HNEW.out.mono ?_; rintro e w7 ⟨s,sp,sq,sce,sna,rfl,hsh,-,hsp,-,-,-,hb7⟩; have HSH:=Lib.hid (And.intro hsh (And.intro hsp hb7)); clear hsh hsp hb7) | (go_at_call 14; refine (HTAKE.out _ _ _ _ _ _ HSH.out.1).mono ?_; rintro e w8 ⟨rfl,hk8⟩; have HK8:=Lib.hid hk8; clear hk8) | (refine wpList_store_row rfl 63 _ _ rfl w8.heap.size blockZ rfl rfl 63 blockZ (heap_alloc_new _ _) (HI3.out _ _ _) rfl (by kernel_rfl) ?_) | fail)
 obtain ⟨w9,hw9⟩ : ∃ w9,w9 = (w8.alloc (.cells blockZ 63)).setRow w8.heap.size blockZ:=⟨_,rfl⟩
 have hfin : Below w.heap.size w w9 ∧ w9.heap[b3]? = some (.cells X3 34) ∧ w9.heap[b5]? = some (.cells (nodeA lostND A5 0 c5) 34):=by
   obtain ⟨hb6,h3,h5⟩:=HC'.out
   obtain ⟨-,hsp,hb7⟩:=HSH.out
   have hk8:=HK8.out
   have hb9 : Below w8.heap.size w8 w9:=by rw [hw9]; exact below_row ((Below.refl _ w8).alloc (Nat.le_refl _) _) (Nat.le_refl _) _
   have s7:=hb7.size
   have s8:=hk8.size
   have hh : ∀ k,k < w6.heap.size → w9.heap[k]? = w6.heap[k]?:=fun k hk => (hb9.block k (by omega)).trans ((hk8.block k (by omega) (by omega)).trans (hb7.block k hk))
   refine ⟨⟨hb9.os.trans (hk8.os.trans (hb7.os.trans hb6.os)),hb9.tape.trans (hk8.tape.trans (hb7.tape.trans hb6.tape)),hb9.output.trans (hk8.output.trans (hb7.output.trans hb6.output)),by have:=hb6.size; have:=hb9.size; omega,fun k hk => (hh k (Nat.lt_of_lt_of_le hk hb6.size)).trans (hb6.block k hk)⟩,(hh _ (Array.getElem?_eq_some_iff.1 h3).1).trans h3,(hh _ (Array.getElem?_eq_some_iff.1 h5).1).trans h5⟩
 change Code.wp _ _ _ _ ((w8.alloc (.cells blockZ 63)).setRow w8.heap.size blockZ)
 rw [← hw9]
 have c0 : w9.cell? ⟨b5,0,none⟩ = some (.int .i64 0):=(cell_of_row _ _ 0 _ _ _ hfin.2.2).trans rfl
 have c6 : w9.cell? ⟨b5,6,none⟩ = some (.int .i64 3):=(cell_of_row _ _ 6 _ _ _ hfin.2.2).trans rfl
 have d0 : ∀ d os,(grow (redrawn w9 d) os).cell? ⟨b5,0,none⟩ = some (.int .i64 0):=fun d os => cell_regrown c0 d os
 have d6 : ∀ d os,(grow (redrawn w9 d) os).cell? ⟨b5,6,none⟩ = some (.int .i64 3):=fun d os => cell_regrown c6 d os
 have har:=hfin.2.1
 have HFIN:=Lib.hid hfin.1
 clear hw9 hfin c0 c6 HC' HSH HK8 HNEW HTAKE HI3
 have hok:=oneD_ok 2 3 (by decide) (by decide)
 have HQ1:=Lib.hid (fun d os => show Calls Tryz.prog 12 #[.int .i64 2,.int .i64 3] (grow (redrawn w9 d) os) fun e w'' => e = .returned (.agg #[.int .i64 0,.int .i64 2,.int .i64 0,.int .i64 3]) ∧ ∃ p : Regrown,w'' = grow (redrawn w9 p.d) p.os from Calls.regrown_of (HAT.out _ 2 3))
 have HQ2:=Lib.hid (fun d os => show Calls Tryz.prog 11 #[.agg #[.int .i64 0,.int .i64 2,.int .i64 0,.int .i64 3]] (grow (redrawn w9 d) os) fun e w'' => e = .returned (.agg N3) ∧ ∃ p : Regrown,w'' = grow (redrawn w9 p.d) p.os from Calls.regrown_of (HN3.out _))
 have HQ3:=Lib.hid (fun d os => show Calls Tryz.prog 7 #[.agg X3,.agg N3] (grow (redrawn w9 d) os) fun e w'' => e = .returned (.bool true) ∧ ∃ p : Regrown,w'' = grow (redrawn w9 p.d) p.os from Calls.regrown_of (by
   have h:=rsame_c (.mk (oneD 0 2 0 3) []) (.mk (oneD 0 2 0 3) []) (grow (redrawn w9 d) os) 0 A3 none c3 0 hok ⟨Nat.zero_le _,HS3.out,.inl rfl⟩ hok ⟨Nat.le_refl _,by omega,.inl rfl⟩ (Nat.zero_le _)
   rw [show sameB (.mk (oneD 0 2 0 3) []) (.mk (oneD 0 2 0 3) []) = true by kernel_rfl] at h
   rw [HX3.out,HN3'.out]
   exact h))
 have HIN : Hid ((Tryz.prog.info? 34).map (·.size) = some X3.size):=Lib.hid (by rw [HX3.out]; exact infN)
 refine wp_region_quiet_below (by kernel_rfl) (by kernel_rfl) ?_
 repeat (first
   | (go_big_quiet_want; refine quiet_row 34 _ rfl b3 rfl 34 X3 (0,0) _ har undN rfl HIN.out ?_; simp only [Act.put,List.setIfInBounds_toArray,List.set_cons_zero,List.set_cons_succ]; go_big_quiet_on)
   | go_big_quiet_step (first | with_reducible exact HQ1.out _ _ | with_reducible exact HQ2.out _ _ | with_reducible exact HQ3.out _ _))
 refine wpQuiet_nil ?_
 rintro w10 ⟨⟨dq,osq⟩,hq10⟩
 have hb10 : Below w9.heap.size w9 w10:=by rw [hq10]; exact below_regrown w9 dq osq
 have HB10:=Lib.hid hb10
 clear hq10 hb10 d0 d6 har
 go_wp2
 first | go_ret | go_ret2
 exact ⟨rfl,HFIN.out.trans (HB10.out.mono HFIN.out.size)⟩
end Go.Proofs.YtbkmnboicihchaaGreat
