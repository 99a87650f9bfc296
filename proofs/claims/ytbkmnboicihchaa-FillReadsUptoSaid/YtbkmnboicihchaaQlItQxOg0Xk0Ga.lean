/- law 28's Build,from region 3 on,and whole. law 28's awake: a corner that goes its way,and one that falls out. what Build gives,of one form. What a row's reading of a node gives: a tree in memory,of no more nodes than the reading's bulk. What a row's reading of a content gives. What a row's reading of a plan gives. -/
import Derived.Test.YtbkmnboicihchaaQkM
import Derived.Test.YtbkmnboicihchaaFlXtQiIq0Is
import Derived.Test.YtbkmnboicihchaaStSqXaNmVr
import Derived.Test.YtbkmnboicihchaaFjQbFkNoGtDp
import Derived.Test.YtbkmnboicihchaaRows
import Derived.Test.YtbkmnboicihchaaNdClPyPmPnPfNwCy
import Derived.ChangeOld
import Derived.OpenShut
import Derived.ProofKit
import Derived.Stop.Joined
import Derived.Lib.SmallJoins
namespace Go.Proofs.Ytbkmnboicihchaa
set_option maxRecDepth 100000
set_option maxHeartbeats 8000000
set_option linter.unusedSimpArgs false
set_option linter.unusedVariables false
open Go Go.RowKit Go.Shelf Go.Maps
theorem mod10 {R Ra : Nat} (hRa : Ra = R % 10) : ((R : Int).tmod 10) = ((Ra : Nat) : Int):=by rw [Int.tmod_eq_emod_of_nonneg (by omega)]; omega
theorem wrap_lt {R : Nat} (hR : R < 256) : wrap64 (R : Int) = R:=by unfold wrap64; omega
theorem bld_3_7 : fromRegion 7 (fromRegion 3 buildC) = fromRegion 7 buildC:=by kernel_rfl
theorem ShZ.lower {W : World} {lo lo' s p q ce na n : Nat} {L M : IL} {C : List (Ad × Ct)} {Zr Zc Zs : Nat → Prop} (h : ShZ W lo s p q ce na n L M C Zr Zc Zs) (hl : lo' ≤ lo) : ShZ W lo' s p q ce na n L M C Zr Zc Zs :=
 ⟨h.own,h.rows,h.cols,h.cells,h.names,Nat.le_trans hl h.los,fun b hb => Nat.le_trans hl (h.loz b hb),h.sn,h.dis,⟨h.lt.1,h.lt.2.1,Nat.le_trans hl h.lt.2.2⟩⟩
theorem StZ.small {W : World} {p n : Nat} {M : List (Ad × Ct)} {Z : Nat → Prop} (h : StZ W p n M Z) : StZ W p n M (fun b => Z b ∧ b < W.heap.size):=by
 obtain ⟨m,D,T,h1,h3,h4,h5,h6⟩:=h
 refine ⟨m,D,T,h1,h3,⟨h4,(Array.getElem?_eq_some_iff.1 h1.1).1⟩,fun b e => ⟨h5 b e,?_⟩,fun b hb => ⟨⟨(h6 b hb).1,(h6 b hb).2.2.2⟩,(h6 b hb).2⟩⟩
 subst e
 have h2 : W.ownsMap Try.prog 33 heldR b n D:=h1.2
 obtain ⟨x,y,z,-⟩:=h2
 exact (Array.getElem?_eq_some_iff.1 z).1
theorem ShZ.small {W : World} {lo s p q ce na n : Nat} {L M : IL} {C : List (Ad × Ct)} {Zr Zc Zs : Nat → Prop} (h : ShZ W lo s p q ce na n L M C Zr Zc Zs) : ShZ W lo s p q ce na n L M C Zr Zc (fun b => Zs b ∧ b < W.heap.size) :=
 ⟨h.own,h.rows,h.cols,h.cells.small,h.names,h.los,fun b hb => h.loz b (hb.imp id (fun h => h.imp id And.left)),⟨h.sn.1,h.sn.2.1,fun h' => h.sn.2.2 h'.1⟩,fun b => ⟨fun hb => ⟨((h.dis b).1 hb).1,fun h' => ((h.dis b).1 hb).2 h'.1⟩,fun hb h' => (h.dis b).2 hb h'.1⟩,⟨h.lt.1,⟨h.lt.2.1.1,h.lt.2.1.2.1,fun h' => h.lt.2.1.2.2 h'.1⟩,h.lt.2.2⟩⟩
theorem bld3 (u0 u2 u3 u4 u5 u6 u7 u8 u9 u10 u11 u12 u13 u14 u15 u16 u17 u18 u19 u20 u21 u22 u23 u24 u25 u26 u27 u28 u29 u30 u31 u32 u33 u34 u35 u36 u37 u38 u39 u40 u41 u42 u43 u44 u45 u46 u47 u48 u49 u50 u51 u52 u53 u54 u55 u56 u57 u58 u59 u60 u61 u62 u63 u64 u65 u66 u67 u68 u69 u70 u71 u72 u73 u74 u75 u76 u77 u78 u79 u80 u81 u82 u83 u84 u85 u86 u87 u88 u89 u90 u91 u92 u93 u94 u95 u96 u97 u98 u99 u100 u101 u102 u103 u104 u105 u106 u107 u108 u109 u110 u111 u112 u113 u114 u115 u116 u117 u118 u119 u120 u121 u122 u123 u124 u125 u126 u127 u128 u129 u130 u131 u132 u133 u134 : Value) (P : Pn) (w W : World) (g R K Ra Ka : Nat) (Adx : Option Addr) (cd : Nat) (Acx : Option Addr) (cc : Nat)
   (hR : Ra = P.rows % 10) (hK : Ka = P.cols % 10) (hRa : Ra = R % 10) (hKa : Ka = K % 10) (hR8 : R < 256) (hK8 : K < 256) (hbw : Below w.heap.size w W) (hd : AdSl w w.heap.size Adx cd P.dead) (hnd : P.dead.length ≤ 20) (hce : ACSl w w.heap.size Acx cc P.cells) (hnc : P.cells.length ≤ 40) (hg : g < W.heap.size) (c0 : W.cell? ⟨g,0,none⟩ = some (.int .u8 R)) (c1 : W.cell? ⟨g,1,none⟩ = some (.int .u8 K)) (hgc : W.cell? ⟨g,2,none⟩ = some (.slice Adx P.dead.length cd)) (hgc3 : W.cell? ⟨g,3,none⟩ = some (.slice Acx P.cells.length cc)) :
   (fromRegion 3 buildC).wp Try.prog (bodyPost Try.prog Try.f12 (BuiltPost P w)) ⟨#[u0,.pointer (some ⟨g,0,none⟩),u2,u3,u4,u5,u6,u7,u8,u9,u10,u11,u12,u13,u14,u15,u16,u17,u18,u19,u20,u21,u22,u23,u24,u25,u26,u27,u28,u29,u30,u31,u32,u33,u34,u35,u36,u37,u38,u39,u40,u41,u42,u43,u44,u45,u46,u47,u48,u49,u50,u51,u52,u53,u54,u55,u56,u57,u58,u59,u60,u61,u62,u63,u64,u65,u66,u67,u68,u69,u70,u71,u72,u73,u74,u75,u76,u77,u78,u79,u80,u81,u82,u83,u84,u85,u86,u87,u88,u89,u90,u91,u92,u93,u94,u95,u96,u97,u98,u99,u100,u101,u102,u103,u104,u105,u106,u107,u108,u109,u110,u111,u112,u113,u114,u115,u116,u117,u118,u119,u120,u121,u122,u123,u124,u125,u126,u127,u128,u129,u130,u131,u132,u133,u134],[]⟩ W:=by
 have hR9 : Ra ≤ 9:=by omega
 have hK9 : Ka ≤ 9:=by omega
 dsimp only
 have e7:=cut_from 7 (fromRegion 3 buildC)
 rw [bld_3_7] at e7
 obtain ⟨CO,hCO⟩ : ∃ CO,CO = fromRegion 7 buildC:=⟨_,rfl⟩
 rw [← hCO] at e7
 have HCO:=Lib.hid hCO
 clear hCO
 obtain ⟨lo,hlo⟩ : ∃ lo,lo = W.heap.size:=⟨_,rfl⟩
 have hend : ∀ (wr : World) (s p q ce na : Nat) (Zr Zc Zs : Nat → Prop) (u0 u3 u4 u5 u8 u9 u10 u11 u12 u13 u14 u15 u16 u17 u18 u19 u20 u21 u22 u23 u24 u25 u26 u27 u28 u29 u30 u31 u32 u33 u34 u35 u36 u37 u38 u39 u40 u41 u42 u43 u44 u45 u46 u47 u48 u49 u50 u51 u52 u53 u54 u55 u56 u57 u58 u59 u60 u61 u62 u63 u64 u65 u66 u67 u68 u69 u70 u71 u72 u73 u74 u75 u76 u77 u78 u79 u80 u81 u82 u83 u84 u85 u86 u87 u88 u89 u90 u91 u92 u93 u94 u95 u96 u97 u98 u99 u100 u101 u102 u103 u104 u105 u106 u107 u108 u109 u110 u111 u112 u113 u114 u115 u116 u117 u118 u119 u120 u121 u122 u123 u124 u125 u126 u127 u128 u129 u130 u131 u132 u133 u134 : Value),ShZ wr lo s p q ce na 0 (allL (freshL Ra)) (allL (freshL Ka)) [] Zr Zc Zs → Below lo W wr → CO.wp Try.prog (bodyPost Try.prog Try.f12 (BuiltPost P w)) ⟨#[u0,.pointer (some ⟨g,0,none⟩),.pointer (some ⟨s,0,none⟩),u3,u4,u5,.int .i64 (Ra : Nat),.int .i64 (Ka : Nat),u8,u9,u10,u11,u12,u13,u14,u15,u16,u17,u18,u19,u20,u21,u22,u23,u24,u25,u26,u27,u28,u29,u30,u31,u32,u33,u34,u35,u36,u37,u38,u39,u40,u41,u42,u43,u44,u45,u46,u47,u48,u49,u50,u51,u52,u53,u54,u55,u56,u57,u58,u59,u60,u61,u62,u63,u64,u65,u66,u67,u68,u69,u70,u71,u72,u73,u74,u75,u76,u77,u78,u79,u80,u81,u82,u83,u84,u85,u86,u87,u88,u89,u90,u91,u92,u93,u94,u95,u96,u97,u98,u99,u100,u101,u102,u103,u104,u105,u106,u107,u108,u109,u110,u111,u112,u113,u114,u115,u116,u117,u118,u119,u120,u121,u122,u123,u124,u125,u126,u127,u128,u129,u130,u131,u132,u133,u134],[]⟩ wr:=by
   intro wr s p q ce na Zr Zc Zs u0 u3 u4 u5 u8 u9 u10 u11 u12 u13 u14 u15 u16 u17 u18 u19 u20 u21 u22 u23 u24 u25 u26 u27 u28 u29 u30 u31 u32 u33 u34 u35 u36 u37 u38 u39 u40 u41 u42 u43 u44 u45 u46 u47 u48 u49 u50 u51 u52 u53 u54 u55 u56 u57 u58 u59 u60 u61 u62 u63 u64 u65 u66 u67 u68 u69 u70 u71 u72 u73 u74 u75 u76 u77 u78 u79 u80 u81 u82 u83 u84 u85 u86 u87 u88 u89 u90 u91 u92 u93 u94 u95 u96 u97 u98 u99 u100 u101 u102 u103 u104 u105 u106 u107 u108 u109 u110 u111 u112 u113 u114 u115 u116 u117 u118 u119 u120 u121 u122 u123 u124 u125 u126 u127 u128 u129 u130 u131 u132 u133 u134 h1 h3
   rw [HCO.out]
   have hwl : w.heap.size ≤ lo:=by rw [hlo]; exact hbw.size
   have hbwr : Below w.heap.size w wr:=hbw.trans (h3.mono hwl)
   have hgl : g < lo:=by rw [hlo]; exact hg
   have hsz : lo ≤ wr.heap.size:=by rw [hlo]; exact h3.size
   have h1:=h1.small
   refine bld7 u0 u3 u4 u5 u8 u9 u10 u11 u12 u13 u14 u15 u16 u17 u18 u19 u20 u21 u22 u23 u24 u25 u26 u27 u28 u29 u30 u31 u32 u33 u34 u35 u36 u37 u38 u39 u40 u41 u42 u43 u44 u45 u46 u47 u48 u49 u50 u51 u52 u53 u54 u55 u56 u57 u58 u59 u60 u61 u62 u63 u64 u65 u66 u67 u68 u69 u70 u71 u72 u73 u74 u75 u76 u77 u78 u79 u80 u81 u82 u83 u84 u85 u86 u87 u88 u89 u90 u91 u92 u93 u94 u95 u96 u97 u98 u99 u100 u101 u102 u103 u104 u105 u106 u107 u108 u109 u110 u111 u112 u113 u114 u115 u116 u117 u118 u119 u120 u121 u122 u123 u124 u125 u126 u127 u128 u129 u130 u131 u132 u133 u134 P w wr (BuiltPost P w) g s p q ce na 0 Ra Ka lo (allL (freshL Ra)) (allL (freshL Ka)) Zr Zc _ Adx cd Acx cc hbwr hd hnd hce hnc hwl hgl ((World.cell?_of_block (a:=⟨g,2,none⟩) (h3.block g hgl)).trans hgc) ((World.cell?_of_block (a:=⟨g,3,none⟩) (h3.block g hgl)).trans hgc3) h1 hsz (fun _ h => h.2) (fresh_Ok (Nat.le_trans hR9 (by decide))) (fresh_Ok (Nat.le_trans hK9 (by decide))) hR9 hK9 ?_ ?_
   · intro W' hb
     exact .inl ⟨rfl,hbwr.trans (hb.mono hwl)⟩
   · intro W' n' C' Zs' A1 c1 A2 c2 k1 k2 k3 k4
     rw [hR] at k1 k2
     rw [hK] at k1 k3
     rw [hR,hK]
     exact .inr ⟨s,p,q,ce,na,n',A1,c1,A2,c2,C',Zr,Zc,Zs',rfl,k1.lower hwl,own_le k2 hwl,own_le k3 hwl,hbwr.trans (k4.mono hwl)⟩
 dsimp only at hend
 have hrm:=mod10 hRa
 have hkm:=mod10 hKa
 have hwr:=wrap_lt hR8
 have hwk:=wrap_lt hK8
 have hwr2:=wrap_lt (Nat.lt_of_le_of_lt hR9 (by decide))
 have hwk2:=wrap_lt (Nat.lt_of_le_of_lt hK9 (by decide))
 have HEND:=Lib.hid hend
 have HNEW:=Lib.hid (fun (wx : World) => sheetNewZ_c wx Ra Ka (Nat.le_trans hR9 (by decide)) (Nat.le_trans hK9 (by decide)))
 have HLO:=Lib.hid hlo
 have d0 : W.drew.cell? ⟨g,0,none⟩ = some (.int .u8 R):=c0
 have d1 : W.drew.cell? ⟨g,1,none⟩ = some (.int .u8 K):=c1
 clear hend hbw hd hnd hce hnc hg hgc hgc3 hR hK hlo hR9 hK9 hRa hKa
 rw [← e7]
 clear e7
 conv => arg 2; whnf; repeat (arg 2; whnf)
 go_upto_region 3 with (fail)
 go_big_quiet (fail)
 go_upto_region 4 with (fail)
 go_upto_region 5 with (first | (go_at_call 10; refine (HNEW.out _).mono ?_; rintro e w2 ⟨s,p,q,ce,na,Zr,Zc,Zs,rfl,hsh,hb2⟩; have HSH:=Lib.hid (And.intro hsh hb2); clear hsh hb2) | fail)
 have d2:=cell_of_row _ _ 0 _ _ _ HSH.out.1.own
 have d3:=cell_of_row _ _ 1 _ _ _ HSH.out.1.own
 have d4:=cell_of_row _ _ 2 _ _ _ HSH.out.1.own
 go_wp2_with (fail)
 refine HEND.out _ s p q ce na Zr Zc Zs _ _ _ _ _ _ _ _ _ _ _ _ _ _ _ _ _ _ _ _ _ _ _ _ _ _ _ _ _ _ _ _ _ _ _ _ _ _ _ _ _ _ _ _ _ _ _ _ _ _ _ _ _ _ _ _ _ _ _ _ _ _ _ _ _ _ _ _ _ _ _ _ _ _ _ _ _ _ _ _ _ _ _ _ _ _ _ _ _ _ _ _ _ _ _ _ _ _ _ _ _ _ _ _ _ _ _ _ _ _ _ _ _ _ _ _ _ _ _ _ _ _ _ _ _ _ _ _ _ _ _ (by rw [HLO.out]; exact HSH.out.1) (by rw [HLO.out]; exact (⟨rfl,rfl,rfl,Nat.le_refl _,fun _ _ => rfl⟩ : Below W.heap.size W (W.drewN nq)).trans HSH.out.2)
theorem build_c (P : Pn) (w : World) (Adx : Option Addr) (cd : Nat) (Acx : Option Addr) (cc : Nat) (hr : P.rows < 256) (hc : P.cols < 256) (hd : AdSl w w.heap.size Adx cd P.dead) (hce : ACSl w w.heap.size Acx cc P.cells) :
   Calls Try.prog 12 #[.agg (P.val Adx cd Acx cc)] w (BuiltPost P w):=by
 obtain ⟨g,hg⟩ : ∃ g,g = w.heap.size:=⟨_,rfl⟩
 obtain ⟨W,hW⟩ : ∃ W,W = w.alloc (.cells (P.val Adx cd Acx cc) 61):=⟨_,rfl⟩
 have hb : Below w.heap.size w W:=by rw [hW]; exact (Below.refl _ w).alloc (Nat.le_refl _) _
 have hk : W.heap[g]? = some (.cells (P.val Adx cd Acx cc) 61):=by rw [hW,hg]; exact heap_alloc_new _ _
 have hgW : g < W.heap.size:=(Array.getElem?_eq_some_iff.1 hk).1
 have c0 : W.cell? ⟨g,0,none⟩ = some (.int .u8 P.rows):=cell_of_row _ _ 0 _ _ _ hk
 have c1 : W.cell? ⟨g,1,none⟩ = some (.int .u8 P.cols):=cell_of_row _ _ 1 _ _ _ hk
 have c2 : W.cell? ⟨g,2,none⟩ = some (.slice Adx P.dead.length cd):=cell_of_row _ _ 2 _ _ _ hk
 have c3 : W.cell? ⟨g,3,none⟩ = some (.slice Acx P.cells.length cc):=cell_of_row _ _ 3 _ _ _ hk
 have hcd : P.dead.length ≤ cd ∧ cd ≤ 9223372036854775807:=⟨hd.1,hd.2.1⟩
 have hccx : P.cells.length ≤ cc ∧ cc ≤ 9223372036854775807:=⟨hce.1,hce.2.1⟩
 have H3 : P.dead.length ≤ 20 → P.cells.length ≤ 40 → Hid (∀ (u0 u2 u3 u4 u5 u6 u7 u8 u9 u10 u11 u12 u13 u14 u15 u16 u17 u18 u19 u20 u21 u22 u23 u24 u25 u26 u27 u28 u29 u30 u31 u32 u33 u34 u35 u36 u37 u38 u39 u40 u41 u42 u43 u44 u45 u46 u47 u48 u49 u50 u51 u52 u53 u54 u55 u56 u57 u58 u59 u60 u61 u62 u63 u64 u65 u66 u67 u68 u69 u70 u71 u72 u73 u74 u75 u76 u77 u78 u79 u80 u81 u82 u83 u84 u85 u86 u87 u88 u89 u90 u91 u92 u93 u94 u95 u96 u97 u98 u99 u100 u101 u102 u103 u104 u105 u106 u107 u108 u109 u110 u111 u112 u113 u114 u115 u116 u117 u118 u119 u120 u121 u122 u123 u124 u125 u126 u127 u128 u129 u130 u131 u132 u133 u134 : Value),(fromRegion 3 buildC).wp Try.prog (bodyPost Try.prog Try.f12 (BuiltPost P w)) ⟨#[u0,.pointer (some ⟨g,0,none⟩),u2,u3,u4,u5,u6,u7,u8,u9,u10,u11,u12,u13,u14,u15,u16,u17,u18,u19,u20,u21,u22,u23,u24,u25,u26,u27,u28,u29,u30,u31,u32,u33,u34,u35,u36,u37,u38,u39,u40,u41,u42,u43,u44,u45,u46,u47,u48,u49,u50,u51,u52,u53,u54,u55,u56,u57,u58,u59,u60,u61,u62,u63,u64,u65,u66,u67,u68,u69,u70,u71,u72,u73,u74,u75,u76,u77,u78,u79,u80,u81,u82,u83,u84,u85,u86,u87,u88,u89,u90,u91,u92,u93,u94,u95,u96,u97,u98,u99,u100,u101,u102,u103,u104,u105,u106,u107,u108,u109,u110,u111,u112,u113,u114,u115,u116,u117,u118,u119,u120,u121,u122,u123,u124,u125,u126,u127,u128,u129,u130,u131,u132,u133,u134],[]⟩ W):=fun h1 h2 => Lib.hid (fun u0 u2 u3 u4 u5 u6 u7 u8 u9 u10 u11 u12 u13 u14 u15 u16 u17 u18 u19 u20 u21 u22 u23 u24 u25 u26 u27 u28 u29 u30 u31 u32 u33 u34 u35 u36 u37 u38 u39 u40 u41 u42 u43 u44 u45 u46 u47 u48 u49 u50 u51 u52 u53 u54 u55 u56 u57 u58 u59 u60 u61 u62 u63 u64 u65 u66 u67 u68 u69 u70 u71 u72 u73 u74 u75 u76 u77 u78 u79 u80 u81 u82 u83 u84 u85 u86 u87 u88 u89 u90 u91 u92 u93 u94 u95 u96 u97 u98 u99 u100 u101 u102 u103 u104 u105 u106 u107 u108 u109 u110 u111 u112 u113 u114 u115 u116 u117 u118 u119 u120 u121 u122 u123 u124 u125 u126 u127 u128 u129 u130 u131 u132 u133 u134 => bld3 u0 u2 u3 u4 u5 u6 u7 u8 u9 u10 u11 u12 u13 u14 u15 u16 u17 u18 u19 u20 u21 u22 u23 u24 u25 u26 u27 u28 u29 u30 u31 u32 u33 u34 u35 u36 u37 u38 u39 u40 u41 u42 u43 u44 u45 u46 u47 u48 u49 u50 u51 u52 u53 u54 u55 u56 u57 u58 u59 u60 u61 u62 u63 u64 u65 u66 u67 u68 u69 u70 u71 u72 u73 u74 u75 u76 u77 u78 u79 u80 u81 u82 u83 u84 u85 u86 u87 u88 u89 u90 u91 u92 u93 u94 u95 u96 u97 u98 u99 u100 u101 u102 u103 u104 u105 u106 u107 u108 u109 u110 u111 u112 u113 u114 u115 u116 u117 u118 u119 u120 u121 u122 u123 u124 u125 u126 u127 u128 u129 u130 u131 u132 u133 u134 P w W g P.rows P.cols (P.rows % 10) (P.cols % 10) Adx cd Acx cc rfl rfl rfl rfl hr hc hb hd h1 hce h2 hgW c0 c1 c2 c3)
 obtain ⟨nd,hnd⟩ : ∃ n,n = P.dead.length:=⟨_,rfl⟩
 obtain ⟨nc,hnc⟩ : ∃ n,n = P.cells.length:=⟨_,rfl⟩
 rw [← hnd] at c2 hcd H3
 rw [← hnc] at c3 hccx H3
 obtain ⟨hcd1,hcd2⟩:=hcd
 obtain ⟨hcc1,hcc2⟩:=hccx
 obtain ⟨PV,hPV⟩ : ∃ PV,PV = P.val Adx cd Acx cc:=⟨_,rfl⟩
 rw [← hPV] at hW hk ⊢
 have HZ : ∀ w',Below w.heap.size w w' → BuiltPost P w (.returned (.tuple #[.pointer none,.slice none 0 0,.slice none 0 0,.int .i64 0])) w':=fun w' h => .inl ⟨rfl,h⟩
 have HG:=Lib.hid hg
 have HW:=Lib.hid hW
 have HZ:=Lib.hid HZ
 have HB:=Lib.hid hb
 have H3:=Lib.hid H3
 clear hnd hnc hd hce hg hW hk hPV hgW hr hc hb
 by_cases hn1 : (40 : Int) < nc
 · go_enter Try.func12,Try.ntmps12
   go_upto_region 1 with (fail)
   rw [← HW.out,← HG.out]
   go_wp2
   refine bodyPost_ret (v:=.tuple #[.pointer none,.slice none 0 0,.slice none 0 0,.int .i64 0]) (results_tmp4 (a:=2) (b:=3) (c:=4) (d:=5) rfl _ _) rfl ?_
   exact HZ.out _ HB.out
 by_cases hn2 : (20 : Int) < nd
 · go_enter Try.func12,Try.ntmps12
   go_upto_region 1 with (fail)
   rw [← HW.out,← HG.out]
   go_wp2
   refine bodyPost_ret (v:=.tuple #[.pointer none,.slice none 0 0,.slice none 0 0,.int .i64 0]) (results_tmp4 (a:=2) (b:=3) (c:=4) (d:=5) rfl _ _) rfl ?_
   exact HZ.out _ HB.out
 have H4:=H3.out (by omega) (by omega)
 clear H3
 go_enter Try.func12,Try.ntmps12
 have e3:=cut_from 3 buildC
 obtain ⟨C,hC⟩ : ∃ C,C = fromRegion 3 buildC:=⟨_,rfl⟩
 rw [← hC] at e3
 have HC:=Lib.hid hC
 clear hC
 change Code.wp Try.prog buildC _ _ _
 rw [← e3]
 clear e3
 conv => arg 2; whnf; repeat (arg 2; whnf)
 go_upto_region 1 with (fail)
 rw [← HW.out,← HG.out]
 go_wp2_with (fail)
 rw [HC.out]
 exact H4.out _ _ _ _ _ _ _ _ _ _ _ _ _ _ _ _ _ _ _ _ _ _ _ _ _ _ _ _ _ _ _ _ _ _ _ _ _ _ _ _ _ _ _ _ _ _ _ _ _ _ _ _ _ _ _ _ _ _ _ _ _ _ _ _ _ _ _ _ _ _ _ _ _ _ _ _ _ _ _ _ _ _ _ _ _ _ _ _ _ _ _ _ _ _ _ _ _ _ _ _ _ _ _ _ _ _ _ _ _ _ _ _ _ _ _ _ _ _ _ _ _ _ _ _ _ _ _ _ _ _ _ _ _ _
end Go.Proofs.Ytbkmnboicihchaa
namespace Go.Proofs.Ytbkmnboicihchaa
set_option maxRecDepth 100000
set_option maxHeartbeats 4000000
set_option linter.unusedSimpArgs false
set_option linter.unusedVariables false
open Go Go.RowKit Go.Shelf Go.Maps Go.Sort
instance (x : Ik) : Decidable x.ok:=by unfold Ik.ok i64; infer_instance
def l3 : List Ik:=[⟨0,1⟩,⟨0,2⟩,⟨0,3⟩]
theorem l3_Ok : (allL l3).Ok:=allL_Ok (by decide) (by decide) (by decide) (by decide)
theorem shift_one : shiftT (allL l3).alive (allL l3).alive ⟨⟨0,1⟩,⟨0,1⟩⟩ ⟨⟨0,2⟩,⟨0,3⟩⟩ (.mk (oneD 0 1 0 1) []) = .mk (oneD 0 2 0 3) []:=by
 rw [allL_alive,shiftT_of (d:=1) (r:=2) (by decide) (by decide),goneT_mk]
 rfl
theorem shift_two : shiftT (allL l3).alive (allL l3).alive ⟨⟨0,1⟩,⟨0,1⟩⟩ ⟨⟨0,2⟩,⟨0,1⟩⟩ (.mk (oneD 0 3 0 1) []) = .mk lostND []:=by
 rw [allL_alive,shiftT_of (d:=1) (r:=0) (by decide) (by decide),goneT_mk]
 rfl
theorem oneD_ok (a b : Int) (ha : i64 a) (hb : i64 b) : (oneD 0 a 0 b).ok:=by
 refine ⟨?_,⟨?_,?_,?_,?_,?_⟩,?_,⟨?_,?_,?_,?_⟩,⟨?_,?_,?_,?_⟩,?_⟩ <;> first | exact ha | exact hb | (simp only [oneD]; decide)
structure Inv28 (w : World) (p : Nat) (l : List (Nat × Array Value)) (wr : World) : Prop where
 below : Below w.heap.size w wr
 le : w.heap.size ≤ p
 ax : AxW wr p (allL l3)
 laid : ∀ x ∈ l,wr.heap[x.1]? = some (.cells x.2 44)
theorem Inv28.next {w wr w' : World} {p : Nat} {l : List (Nat × Array Value)} (h : Inv28 w p l wr) (hb : Below wr.heap.size wr w') : Inv28 w p l w' :=
 ⟨h.below.trans (hb.mono h.below.size),h.le,h.ax.below hb,fun x hx => (hb.block _ (Array.getElem?_eq_some_iff.1 (h.laid x hx)).1).trans (h.laid x hx)⟩
theorem Inv28.shift {w wr w' : World} {p : Nat} {l : List (Nat × Array Value)} (h : Inv28 w p l wr) (hp : AxRd w' p (allL l3)) (hk : KeepQ p p wr w') : Inv28 w p l w':=by
 obtain ⟨cs,hcs,-⟩:=h.ax.short
 refine ⟨⟨hk.os.trans h.below.os,hk.tape.trans h.below.tape,hk.output.trans h.below.output,Nat.le_trans h.below.size hk.size,fun b hb => (hk.block b (Nat.lt_of_lt_of_le hb h.below.size) (by have:=h.le; omega) (by have:=h.le; omega)).trans (h.below.block b hb)⟩,h.le,.inl hp,fun x hx => ?_⟩
 have hne : x.1 ≠ p:=fun e => by
   have h1:=h.laid x hx
   rw [e,hcs] at h1
   simp only [Option.some.injEq,Obj.cells.injEq] at h1
   exact absurd h1.2.1 (by decide)
 exact (hk.block _ (Array.getElem?_eq_some_iff.1 (h.laid x hx)).1 hne hne).trans (h.laid x hx)
theorem Inv28.lay {w wr : World} {p : Nat} {l : List (Nat × Array Value)} (h : Inv28 w p l wr) (Z X : Array Value) : Inv28 w p ((wr.heap.size,X) :: l) ((wr.alloc (.cells Z 44)).setRow wr.heap.size X):=by
 have hb : Below wr.heap.size wr ((wr.alloc (.cells Z 44)).setRow wr.heap.size X):=below_row ((Below.refl _ wr).alloc (Nat.le_refl _) _) (Nat.le_refl _) _
 have h':=h.next hb
 refine ⟨h'.below,h'.le,h'.ax,fun x hx => ?_⟩
 rcases List.mem_cons.1 hx with rfl | hx
 · exact setRow_heap _ _ _ _ _ _ (heap_alloc_new _ _)
 · exact h'.laid x hx
theorem awake28_c (w : World) : Calls Try.prog 6 #[] w fun e w' => e = .returned (.bool true) ∧ Below w.heap.size w w':=by
 obtain ⟨W1,hW1⟩ : ∃ W1,W1 = w.alloc (.cells #[.int .i64 0,.int .i64 1,.int .i64 0,.int .i64 2,.int .i64 0,.int .i64 3] 31):=⟨_,rfl⟩
 have hb1 : Below w.heap.size w W1:=by rw [hW1]; exact (Below.refl _ w).alloc (Nat.le_refl _) _
 have hk1 : W1.heap[w.heap.size]? = some (.cells #[.int .i64 0,.int .i64 1,.int .i64 0,.int .i64 2,.int .i64 0,.int .i64 3] 31):=by rw [hW1]; exact heap_alloc_new _ _
 have hsl : IkSl W1 W1.heap.size (some ⟨w.heap.size,0,none⟩) 3 l3:=by
   refine ⟨by decide,by decide,.inr ⟨w.heap.size,0,rfl,(Array.getElem?_eq_some_iff.1 hk1).1,fun j hj i v hv => ?_⟩⟩
   match j,hj,i,hv with
   | 0,_,0,hv => rw [cell_of_row _ _ _ _ _ _ hk1]; exact hv
   | 0,_,1,hv => rw [cell_of_row _ _ _ _ _ _ hk1]; exact hv
   | 1,_,0,hv => rw [cell_of_row _ _ _ _ _ _ hk1]; exact hv
   | 1,_,1,hv => rw [cell_of_row _ _ _ _ _ _ hk1]; exact hv
   | 2,_,0,hv => rw [cell_of_row _ _ _ _ _ _ hk1]; exact hv
   | 2,_,1,hv => rw [cell_of_row _ _ _ _ _ _ hk1]; exact hv
 have HNEW:=Lib.hid (axNew_c W1 l3 (by decide) (by decide) (by decide) (by decide) (some ⟨w.heap.size,0,none⟩) 3 hsl)
 have HW1:=Lib.hid hW1
 have HB1:=Lib.hid hb1
 have HAT:=Lib.hid at28_c
 have HONE:=Lib.hid one28_c
 have HS1:=Lib.hid (fun (p : Nat) (wx : World) (h : AxW wx p (allL l3)) => shiftW_c h h (fun _ => rfl) l3_Ok l3_Ok (.mk (oneD 0 1 0 1) []) none 0 (oneD_ok 1 1 (by decide) (by decide)) ⟨Nat.le_refl _,by omega,.inl rfl⟩ (by decide) ⟨⟨0,1⟩,⟨0,1⟩⟩ ⟨⟨0,2⟩,⟨0,3⟩⟩ (by decide) (by decide))
 have HS2:=Lib.hid (fun (p : Nat) (wx : World) (h : AxW wx p (allL l3)) => shiftW_c h h (fun _ => rfl) l3_Ok l3_Ok (.mk (oneD 0 3 0 1) []) none 0 (oneD_ok 3 1 (by decide) (by decide)) ⟨Nat.le_refl _,by omega,.inl rfl⟩ (by decide) ⟨⟨0,1⟩,⟨0,1⟩⟩ ⟨⟨0,2⟩,⟨0,1⟩⟩ (by decide) (by decide))
 rw [shift_one] at HS1
 rw [shift_two] at HS2
 clear hW1 hb1 hk1 hsl
 go_enter Try.func6,Try.ntmps6
 go_upto_region 2 with (first | (go_at_call 20; rw [← HW1.out]; refine HNEW.out.mono ?_; rintro e w2 ⟨rfl,hN⟩; have HN:=Lib.hid hN; clear hN) | fail)
 obtain ⟨p,hp⟩ : ∃ p,p = W1.heap.size:=⟨_,rfl⟩
 rw [← hp]
 have hinv : Inv28 w p [] w2:=by
   obtain ⟨h1,h2⟩:=RNew.ax (l:=l3) HN.out
   rw [← hp] at h1 h2
   have hle : w.heap.size ≤ p:=by rw [hp]; exact HB1.out.size
   exact ⟨HB1.out.trans (h2.mono hle),hle,h1,fun x hx => by cases hx⟩
 have HC:=Lib.hid hinv
 clear hinv HN HNEW HW1 HB1 hp
 obtain ⟨N1,hN1⟩ : ∃ N,N = nodeA (oneD 0 1 0 1) none 0 0:=⟨_,rfl⟩
 obtain ⟨N2,hN2⟩ : ∃ N,N = nodeA (oneD 0 3 0 1) none 0 0:=⟨_,rfl⟩
 obtain ⟨N3,hN3⟩ : ∃ N,N = nodeA (oneD 0 2 0 3) none 0 0:=⟨_,rfl⟩
 have HN1:=Lib.hid (fun (wx : World) => show Calls Try.prog 21 #[.agg #[.int .i64 0,.int .i64 1,.int .i64 0,.int .i64 1]] wx fun e w' => e = .returned (.agg N1) ∧ Below wx.heap.size wx w' from by rw [hN1]; exact HONE.out wx 0 1 0 1)
 have HN2:=Lib.hid (fun (wx : World) => show Calls Try.prog 21 #[.agg #[.int .i64 0,.int .i64 3,.int .i64 0,.int .i64 1]] wx fun e w' => e = .returned (.agg N2) ∧ Below wx.heap.size wx w' from by rw [hN2]; exact HONE.out wx 0 3 0 1)
 have HN3:=Lib.hid (fun (wx : World) => show Calls Try.prog 21 #[.agg #[.int .i64 0,.int .i64 2,.int .i64 0,.int .i64 3]] wx fun e w' => e = .returned (.agg N3) ∧ Below wx.heap.size wx w' from by rw [hN3]; exact HONE.out wx 0 2 0 3)
 have HT1:=Lib.hid (fun (wx : World) (h : AxW wx p (allL l3)) => show Calls Try.prog 16 #[.agg N1,.agg #[.int .i64 0,.int .i64 1,.int .i64 0,.int .i64 1],.agg #[.int .i64 0,.int .i64 2,.int .i64 0,.int .i64 3],.pointer (some ⟨p,0,none⟩),.pointer (some ⟨p,0,none⟩)] wx (ShiftPost p p (allL l3) (allL l3) wx (Tr.mk (oneD 0 2 0 3) [])) from by rw [hN1]; exact HS1.out p wx h)
 have HT2:=Lib.hid (fun (wx : World) (h : AxW wx p (allL l3)) => show Calls Try.prog 16 #[.agg N2,.agg #[.int .i64 0,.int .i64 1,.int .i64 0,.int .i64 1],.agg #[.int .i64 0,.int .i64 2,.int .i64 0,.int .i64 1],.pointer (some ⟨p,0,none⟩),.pointer (some ⟨p,0,none⟩)] wx (ShiftPost p p (allL l3) (allL l3) wx (Tr.mk lostND [])) from by rw [hN2]; exact HS2.out p wx h)
 have HNO:=Lib.hid (show ∀ (d : ND) A c,(nodeA d A 0 c).size = 22 ∧ (nodeA d A 0 c).all (·.oneCell') = true from fun _ _ _ => ⟨rfl,node_one _ _ _ _⟩)
 have HN3':=Lib.hid hN3
 clear hN1 hN2 hN3 HONE HS1 HS2
 go_upto_region 3 with (first | (go_at_call 22; refine (HAT.out _ _ _).mono ?_; rintro e wn ⟨rfl,hb⟩; have HC':=Lib.hid (HC.out.next hb); clear HC hb; have HC:=HC'; clear HC') | (go_at_call 21; refine (HN1.out _).mono ?_; rintro e wn ⟨rfl,hb⟩; have HC':=Lib.hid (HC.out.next hb); clear HC hb; have HC:=HC'; clear HC') | (go_at_call 16; refine (HT1.out _ HC.out.ax).mono ?_; rintro e w3 ⟨A3,c3,rfl,-,hs3,hp3,-,hk3⟩; have HS3:=Lib.hid hs3.2.1; clear hs3; have HC':=Lib.hid (HC.out.shift hp3 hk3); clear HC hp3 hk3; have HC:=HC'; clear HC') | (refine wpList_nodeVar rfl rfl w3.heap.size rfl ?_) | (refine wpList_store_row rfl 44 _ _ rfl w3.heap.size (nodeA (oneD 0 2 0 3) A3 0 c3) rfl rfl 44 (nodeA zD none 0 0) (heap_alloc_new _ _) (infS (HNO.out _ _ _).1) rfl (HNO.out _ _ _).2 ?_) | fail)
 generalize nodeV (Tr.mk (oneD 0 2 0 3) []).d A3 (Tr.mk (oneD 0 2 0 3) []).l.length c3 = u18
 obtain ⟨X3,hX3⟩ : ∃ X3,X3 = nodeA (oneD 0 2 0 3) A3 0 c3:=⟨_,rfl⟩
 have HX3:=Lib.hid hX3
 have hC4:=HC.out.lay (nodeA zD none 0 0) X3
 rw [← hX3]
 obtain ⟨w4,hw4⟩ : ∃ w4,w4 = (w3.alloc (.cells (nodeA zD none 0 0) 44)).setRow w3.heap.size X3:=⟨_,rfl⟩
 obtain ⟨b3,hb3⟩ : ∃ b3,b3 = w3.heap.size:=⟨_,rfl⟩
 rw [← hw4,← hb3] at hC4
 change Code.wp _ _ _ _ ((w3.alloc (.cells (nodeA zD none 0 0) 44)).setRow w3.heap.size X3)
 rw [← hw4,← hb3]
 clear HC hX3 hw4 hb3 HN1 HT1
 have HC:=Lib.hid hC4
 clear hC4
 go_upto_region 4 with (first | (go_at_call 22; refine (HAT.out _ _ _).mono ?_; rintro e wn ⟨rfl,hb⟩; have HC':=Lib.hid (HC.out.next hb); clear HC hb; have HC:=HC'; clear HC') | (go_at_call 21; refine (HN2.out _).mono ?_; rintro e wn ⟨rfl,hb⟩; have HC':=Lib.hid (HC.out.next hb); clear HC hb; have HC:=HC'; clear HC') | (go_at_call 16; refine (HT2.out _ HC.out.ax).mono ?_; rintro e w5 ⟨A5,c5,rfl,-,-,hp3,-,hk3⟩; have HC':=Lib.hid (HC.out.shift hp3 hk3); clear HC hp3 hk3; have HC:=HC'; clear HC') | (refine wpList_nodeVar rfl rfl w5.heap.size rfl ?_) | (refine wpList_store_row rfl 44 _ _ rfl w5.heap.size (nodeA lostND A5 0 c5) rfl rfl 44 (nodeA zD none 0 0) (heap_alloc_new _ _) (infS (HNO.out _ _ _).1) rfl (HNO.out _ _ _).2 ?_) | fail)
 generalize nodeV (Tr.mk lostND []).d A5 (Tr.mk lostND []).l.length c5 = u25
 have hC6:=HC.out.lay (nodeA zD none 0 0) (nodeA lostND A5 0 c5)
 obtain ⟨w6,hw6⟩ : ∃ w6,w6 = (w5.alloc (.cells (nodeA zD none 0 0) 44)).setRow w5.heap.size (nodeA lostND A5 0 c5):=⟨_,rfl⟩
 obtain ⟨b5,hb5⟩ : ∃ b5,b5 = w5.heap.size:=⟨_,rfl⟩
 rw [← hw6,← hb5] at hC6
 change Code.wp _ _ _ _ ((w5.alloc (.cells (nodeA zD none 0 0) 44)).setRow w5.heap.size (nodeA lostND A5 0 c5))
 rw [← hw6,← hb5]
 have HC':=Lib.hid (show Below w.heap.size w w6 ∧ w6.heap[b3]? = some (.cells X3 44) ∧ w6.heap[b5]? = some (.cells (nodeA lostND A5 0 c5) 44) from ⟨hC6.below,hC6.laid (b3,X3) (by simp),hC6.laid (b5,nodeA lostND A5 0 c5) (by simp)⟩)
 clear HC hw6 hb5 HN2 HT2 hC6
 have HNEW:=Lib.hid (sheetNew_c w6 2 2 (by omega) (by omega))
 have HTAKE:=Lib.hid (fun (wx : World) (s p q ce na : Nat) (h : ShN wx s p q ce na (allL (freshL 2)) (allL (freshL 2))) => takeOut_c (x:=⟨q,0,none⟩) (y:=⟨ce,0,none⟩) (z:=⟨na,0,none⟩) h.own (fresh_Ok (by omega)) h.rows 0 0 3 1 (by rw [allL_alive,freshL_len]; decide))
 have HI3:=Lib.hid infB3
 go_upto_region 6 with (first | (go_at_call 10; refine HNEW.out.mono ?_; rintro e w7 ⟨s,sp,sq,sce,sna,rfl,hsh,-,hsp,-,-,-,hb7⟩; have HSH:=Lib.hid (And.intro hsh (And.intro hsp hb7)); clear hsh hsp hb7) | (go_at_call 7; refine (HTAKE.out _ _ _ _ _ _ HSH.out.1).mono ?_; rintro e w8 ⟨rfl,hk8⟩; have HK8:=Lib.hid hk8; clear hk8) | (refine wpList_store_row rfl 26 _ _ rfl w8.heap.size blockZ rfl rfl 26 blockZ (heap_alloc_new _ _) (HI3.out _ _ _) rfl (by kernel_rfl) ?_) | fail)
 obtain ⟨w9,hw9⟩ : ∃ w9,w9 = (w8.alloc (.cells blockZ 26)).setRow w8.heap.size blockZ:=⟨_,rfl⟩
 have hfin : Below w.heap.size w w9 ∧ w9.heap[b3]? = some (.cells X3 44) ∧ w9.heap[b5]? = some (.cells (nodeA lostND A5 0 c5) 44):=by
   obtain ⟨hb6,h3,h5⟩:=HC'.out
   obtain ⟨-,hsp,hb7⟩:=HSH.out
   have hk8:=HK8.out
   have hb9 : Below w8.heap.size w8 w9:=by rw [hw9]; exact below_row ((Below.refl _ w8).alloc (Nat.le_refl _) _) (Nat.le_refl _) _
   have s7:=hb7.size
   have s8:=hk8.size
   have hh : ∀ k,k < w6.heap.size → w9.heap[k]? = w6.heap[k]?:=fun k hk => (hb9.block k (by omega)).trans ((hk8.block k (by omega) (by omega)).trans (hb7.block k hk))
   refine ⟨⟨hb9.os.trans (hk8.os.trans (hb7.os.trans hb6.os)),hb9.tape.trans (hk8.tape.trans (hb7.tape.trans hb6.tape)),hb9.output.trans (hk8.output.trans (hb7.output.trans hb6.output)),by have:=hb6.size; have:=hb9.size; omega,fun k hk => (hh k (Nat.lt_of_lt_of_le hk hb6.size)).trans (hb6.block k hk)⟩,(hh _ (Array.getElem?_eq_some_iff.1 h3).1).trans h3,(hh _ (Array.getElem?_eq_some_iff.1 h5).1).trans h5⟩
 change Code.wp _ _ _ _ ((w8.alloc (.cells blockZ 26)).setRow w8.heap.size blockZ)
 rw [← hw9]
 have c0 : w9.cell? ⟨b5,0,none⟩ = some (.int .i64 0):=(cell_of_row _ _ 0 _ _ _ hfin.2.2).trans rfl
 have c6 : w9.cell? ⟨b5,6,none⟩ = some (.int .i64 3):=(cell_of_row _ _ 6 _ _ _ hfin.2.2).trans rfl
 have d0 : ∀ d os,(grow (redrawn w9 d) os).cell? ⟨b5,0,none⟩ = some (.int .i64 0):=fun d os => cell_regrown c0 d os
 have d6 : ∀ d os,(grow (redrawn w9 d) os).cell? ⟨b5,6,none⟩ = some (.int .i64 3):=fun d os => cell_regrown c6 d os
 have har:=hfin.2.1
 have HFIN:=Lib.hid hfin.1
 clear hw9 hfin c0 c6 HC' HSH HK8 HNEW HTAKE HI3
 have hok:=oneD_ok 2 3 (by decide) (by decide)
 have HQ1:=Lib.hid (fun d os => show Calls Try.prog 22 #[.int .i64 2,.int .i64 3] (grow (redrawn w9 d) os) fun e w'' => e = .returned (.agg #[.int .i64 0,.int .i64 2,.int .i64 0,.int .i64 3]) ∧ ∃ p : Regrown,w'' = grow (redrawn w9 p.d) p.os from Calls.regrown_of (HAT.out _ 2 3))
 have HQ2:=Lib.hid (fun d os => show Calls Try.prog 21 #[.agg #[.int .i64 0,.int .i64 2,.int .i64 0,.int .i64 3]] (grow (redrawn w9 d) os) fun e w'' => e = .returned (.agg N3) ∧ ∃ p : Regrown,w'' = grow (redrawn w9 p.d) p.os from Calls.regrown_of (HN3.out _))
 have HQ3:=Lib.hid (fun d os => show Calls Try.prog 18 #[.agg X3,.agg N3] (grow (redrawn w9 d) os) fun e w'' => e = .returned (.bool true) ∧ ∃ p : Regrown,w'' = grow (redrawn w9 p.d) p.os from Calls.regrown_of (by
   have h:=rsame_c (.mk (oneD 0 2 0 3) []) (.mk (oneD 0 2 0 3) []) (grow (redrawn w9 d) os) 0 A3 none c3 0 hok ⟨Nat.zero_le _,HS3.out,.inl rfl⟩ hok ⟨Nat.le_refl _,by omega,.inl rfl⟩ (Nat.zero_le _)
   rw [show sameB (.mk (oneD 0 2 0 3) []) (.mk (oneD 0 2 0 3) []) = true by kernel_rfl] at h
   rw [HX3.out,HN3'.out]
   exact h))
 have HIN : Hid ((Try.prog.info? 44).map (·.size) = some X3.size):=Lib.hid (by rw [HX3.out]; exact infN)
 refine wp_region_quiet_below (by kernel_rfl) (by kernel_rfl) ?_
 repeat (first
   | (go_big_quiet_want; refine quiet_row 44 _ rfl b3 rfl 44 X3 (0,0) _ har undN rfl HIN.out ?_; simp only [Act.put,List.setIfInBounds_toArray,List.set_cons_zero,List.set_cons_succ]; go_big_quiet_on)
   | go_big_quiet_step (first | with_reducible exact HQ1.out _ _ | with_reducible exact HQ2.out _ _ | with_reducible exact HQ3.out _ _))
 refine wpQuiet_nil ?_
 rintro w10 ⟨⟨dq,osq⟩,hq10⟩
 have hb10 : Below w9.heap.size w9 w10:=by rw [hq10]; exact below_regrown w9 dq osq
 have HB10:=Lib.hid hb10
 clear hq10 hb10 d0 d6 har
 go_wp2
 first | go_ret | go_ret2
 exact ⟨rfl,HFIN.out.trans (HB10.out.mono HFIN.out.size)⟩
end Go.Proofs.Ytbkmnboicihchaa
namespace Go.Proofs.Ytbkmnboicihchaa
set_option linter.unusedSimpArgs false
set_option linter.unusedVariables false
open Go Go.RowKit Go.Shelf Go.Maps
theorem AdSl.below {w w' : World} {B B' : Nat} {A : Option Addr} {c : Nat} {l : List Ad} (h : AdSl w B A c l) (hb : Below B w w') (hB : B ≤ B') : AdSl w' B' A c l:=by
 obtain ⟨h1,h2,h3,h4⟩:=h
 refine ⟨h1,h2,h3,?_⟩
 rcases h4 with h4 | ⟨b,o,e,hl,h4⟩
 · exact .inl h4
 · exact .inr ⟨b,o,e,Nat.lt_of_lt_of_le hl hB,fun j hj i v hv => (World.cell?_of_block (a:=⟨b,o + j * 4 + i,none⟩) (hb.block b hl)).trans (h4 j hj i v hv)⟩
theorem ACSl.below {w w' : World} {B B' : Nat} {A : Option Addr} {c : Nat} {l : List (Ad × Ct)} (h : ACSl w B A c l) (hb : Below B w w') (hB : B ≤ B') : ACSl w' B' A c l:=by
 obtain ⟨h1,h2,h3,h4⟩:=h
 refine ⟨h1,h2,h3,?_⟩
 rcases h4 with h4 | ⟨b,o,e,hl,h4⟩
 · exact .inl h4
 · refine .inr ⟨b,o,e,Nat.lt_of_lt_of_le hl hB,fun j hj => ?_⟩
   obtain ⟨A',c',h5,h6⟩:=h4 j hj
   exact ⟨A',c',fun i v hv => (World.cell?_of_block (a:=⟨b,o + j * 33 + i,none⟩) (hb.block b hl)).trans (h5 i v hv),(h6.below hb).more hB⟩
theorem built_form {P : Pn} {w w' : World} {e : Ending} (h : BuiltPost P w e w') : ∃ v7 v8 v9 k, e = .returned (.tuple #[v7, v8, v9, .int .i64 k]) ∧ Below w.heap.size w w' ∧ (k = 0 ∨ (k = 1 ∧
   ∃ s p q ce na n A1 c1 A2 c2 C Zr Zc Zs,v7 = .pointer (some ⟨s,0,none⟩) ∧ v8 = .slice A1 (liveL (P.rows % 10) (P.dead.map Ad.row)).length c1 ∧ v9 = .slice A2 (liveL (P.cols % 10) (P.dead.map Ad.col)).length c2 ∧
   ShZ w' w.heap.size s p q ce na n ((P.dead.map Ad.row).foldl kill (allL (freshL (P.rows % 10)))) ((P.dead.map Ad.col).foldl kill (allL (freshL (P.cols % 10)))) C Zr Zc Zs ∧
   w'.ownsRow w.heap.size 31 2 (.slice A1 (liveL (P.rows % 10) (P.dead.map Ad.row)).length c1) (liveL (P.rows % 10) (P.dead.map Ad.row)).length (ikCells (liveL (P.rows % 10) (P.dead.map Ad.row))) ∧
   w'.ownsRow w.heap.size 31 2 (.slice A2 (liveL (P.cols % 10) (P.dead.map Ad.col)).length c2) (liveL (P.cols % 10) (P.dead.map Ad.col)).length (ikCells (liveL (P.cols % 10) (P.dead.map Ad.col))))):=by
 rcases h with ⟨rfl,hb⟩ | ⟨s,p,q,ce,na,n,A1,c1,A2,c2,C,Zr,Zc,Zs,rfl,h1,h2,h3,hb⟩
 · exact ⟨_,_,_,_,rfl,hb,.inl rfl⟩
 · exact ⟨_,_,_,_,rfl,hb,.inr ⟨rfl,s,p,q,ce,na,n,A1,c1,A2,c2,C,Zr,Zc,Zs,rfl,rfl,rfl,h1,h2,h3⟩⟩
theorem kills_Ok : ∀ (l : List Ik) {L : IL},L.Ok → (l.foldl kill L).Ok
 | [],_,h => h
 | x :: l,_,h => kills_Ok l (kill_Ok h x)
theorem built_Ok (m : Nat) (l : List Ik) : (l.foldl kill (allL (freshL (m % 10)))).Ok:=kills_Ok l (fresh_Ok (by omega))
theorem ShZ.apart {W : World} {lo s p q ce na n : Nat} {L M : IL} {C : List (Ad × Ct)} {Zr Zc Zs : Nat → Prop} (h : ShZ W lo s p q ce na n L M C Zr Zc Zs) : p ≠ q ∧ lo ≤ p ∧ lo ≤ q:=by
 obtain ⟨_,_,_,_,-,hp,-⟩:=h.rows
 obtain ⟨_,_,_,_,-,hq,-⟩:=h.cols
 exact ⟨fun e => ((h.dis p).1 hp).1 (e ▸ hq),h.loz p (.inl hp),h.loz q (.inr (.inl hq))⟩
end Go.Proofs.Ytbkmnboicihchaa
namespace Go.Proofs.Ytbkmnboicihchaa
set_option maxHeartbeats 1000000
open Go.RowKit
section
variable {H : Type} {enc : TypeId × Value → H} {w : World} {fuel : Nat} {cs : List Value} {x : DataW H × List MemPlace}
theorem cutL (cs : List Value) (o k : Nat) : cs.drop o = (cs.drop o).take k ++ cs.drop (o + k):=by
 rw [← List.drop_drop]; exact (List.take_append_drop k (cs.drop o)).symm
theorem bulk_mem {H : Type} : ∀ (l : List (DataW H)) (d : DataW H),d ∈ l → Rows.uptoBulk d ≤ Rows.uptoBulkAll l
 | [],_,h => by cases h
 | a :: l,d,h => by
   simp only [Rows.uptoBulkAll]
   rcases List.mem_cons.1 h with rfl | h
   · omega
   · have:=bulk_mem l d h; omega
theorem bulk_field (xs : List (DataW H × List MemPlace)) (i : Nat) (y : DataW H × List MemPlace) (h : xs[i]? = some y) : Rows.uptoBulk y.1 ≤ Rows.uptoBulk (DataW.agg (xs.map (·.1))):=by
 have:=bulk_mem (xs.map (·.1)) y.1 (List.mem_map.2 ⟨y,List.mem_of_getElem? h,rfl⟩)
 simp only [Rows.uptoBulk]; omega
theorem get_some {α : Type} {xs : List α} {n i : Nat} (h : xs.length = n) (hi : i < n) : ∃ y,xs[i]? = some y:=⟨xs[i]'(by omega),List.getElem?_eq_getElem _⟩
theorem open_id (h : DataW.trod enc Try.prog w 0 (fun _ => true) true fuel 31 cs = some x) : ∃ a n : Int,cs = [.int .i64 a,.int .i64 n] ∧ i64 a ∧ i64 n:=by
 obtain ⟨xs,n,rfl,rfl,hl,hxs,hf⟩:=DataW.trod_struct Try.underlying31 h
 have hc : Try.prog.cellsOf 31 = 2:=by kernel_rfl
 have h3 : Try.prog.cellsOf 3 = 1:=by kernel_rfl
 obtain ⟨y0,e0⟩:=get_some hxs (show 0 < 2 by omega)
 obtain ⟨y1,e1⟩:=get_some hxs (show 1 < 2 by omega)
 have f0 : DataW.trod enc Try.prog w 0 (fun _ => true) true n 3 ((cs.drop 0).take (Try.prog.cellsOf 3)) = some y0:=(hf 0 _ rfl).trans e0
 have f1 : DataW.trod enc Try.prog w 0 (fun _ => true) true n 3 ((cs.drop 1).take (Try.prog.cellsOf 3)) = some y1:=(hf 1 _ rfl).trans e1
 rw [h3] at f0 f1
 obtain ⟨a,ha,-,wa⟩:=DataW.trod_int Try.underlying3 f0
 obtain ⟨b,hb,-,wb⟩:=DataW.trod_int Try.underlying3 f1
 refine ⟨a,b,?_,bounds_i64 wa,bounds_i64 wb⟩
 have c0:=cutL cs 0 1
 have c1:=cutL cs 1 1
 rw [ha,Nat.zero_add,List.drop_zero] at c0
 rw [hb] at c1
 rw [c0,c1,List.drop_of_length_le (by omega)]
 rfl
theorem open_num (h : DataW.trod enc Try.prog w 0 (fun _ => true) true fuel 35 cs = some x) : ∃ a n : Int,cs = [.int .i64 a,.int .i64 n] ∧ i64 a ∧ i64 n:=by
 obtain ⟨xs,n,rfl,rfl,hl,hxs,hf⟩:=DataW.trod_struct Try.underlying35 h
 have hc : Try.prog.cellsOf 35 = 2:=by kernel_rfl
 have h3 : Try.prog.cellsOf 3 = 1:=by kernel_rfl
 obtain ⟨y0,e0⟩:=get_some hxs (show 0 < 2 by omega)
 obtain ⟨y1,e1⟩:=get_some hxs (show 1 < 2 by omega)
 have f0 : DataW.trod enc Try.prog w 0 (fun _ => true) true n 3 ((cs.drop 0).take (Try.prog.cellsOf 3)) = some y0:=(hf 0 _ rfl).trans e0
 have f1 : DataW.trod enc Try.prog w 0 (fun _ => true) true n 3 ((cs.drop 1).take (Try.prog.cellsOf 3)) = some y1:=(hf 1 _ rfl).trans e1
 rw [h3] at f0 f1
 obtain ⟨a,ha,-,wa⟩:=DataW.trod_int Try.underlying3 f0
 obtain ⟨b,hb,-,wb⟩:=DataW.trod_int Try.underlying3 f1
 refine ⟨a,b,?_,bounds_i64 wa,bounds_i64 wb⟩
 have c0:=cutL cs 0 1
 have c1:=cutL cs 1 1
 rw [ha,Nat.zero_add,List.drop_zero] at c0
 rw [hb] at c1
 rw [c0,c1,List.drop_of_length_le (by omega)]
 rfl
theorem open_corner (h : DataW.trod enc Try.prog w 0 (fun _ => true) true fuel 39 cs = some x) : ∃ c : Cn,cs = c.cells ∧ c.ok:=by
 obtain ⟨xs,n,rfl,rfl,hl,hxs,hf⟩:=DataW.trod_struct Try.underlying39 h
 have hc : Try.prog.cellsOf 39 = 6:=by kernel_rfl
 have h2 : Try.prog.cellsOf 31 = 2:=by kernel_rfl
 have h1 : Try.prog.cellsOf 4 = 1:=by kernel_rfl
 obtain ⟨y0,e0⟩:=get_some hxs (show 0 < 4 by omega)
 obtain ⟨y1,e1⟩:=get_some hxs (show 1 < 4 by omega)
 obtain ⟨y2,e2⟩:=get_some hxs (show 2 < 4 by omega)
 obtain ⟨y3,e3⟩:=get_some hxs (show 3 < 4 by omega)
 have f0 : DataW.trod enc Try.prog w 0 (fun _ => true) true n 31 ((cs.drop 0).take (Try.prog.cellsOf 31)) = some y0:=(hf 0 _ rfl).trans e0
 have f1 : DataW.trod enc Try.prog w 0 (fun _ => true) true n 31 ((cs.drop 2).take (Try.prog.cellsOf 31)) = some y1:=(hf 1 _ rfl).trans e1
 have f2 : DataW.trod enc Try.prog w 0 (fun _ => true) true n 4 ((cs.drop 4).take (Try.prog.cellsOf 4)) = some y2:=(hf 2 _ rfl).trans e2
 have f3 : DataW.trod enc Try.prog w 0 (fun _ => true) true n 4 ((cs.drop 5).take (Try.prog.cellsOf 4)) = some y3:=(hf 3 _ rfl).trans e3
 rw [h2] at f0 f1
 rw [h1] at f2 f3
 obtain ⟨ra,rn,g0,k0,k1⟩:=open_id f0
 obtain ⟨ca,cn,g1,k2,k3⟩:=open_id f1
 obtain ⟨fr,g2,-⟩:=DataW.trod_bool Try.underlying4 f2
 obtain ⟨fc,g3,-⟩:=DataW.trod_bool Try.underlying4 f3
 refine ⟨⟨ra,rn,ca,cn,fr,fc⟩,?_,k0,k1,k2,k3⟩
 have c0:=cutL cs 0 2
 have c1:=cutL cs 2 2
 have c2:=cutL cs 4 1
 have c3:=cutL cs 5 1
 rw [g0,Nat.zero_add,List.drop_zero] at c0
 rw [g1] at c1
 rw [g2] at c2
 rw [g3] at c3
 rw [c0,c1,c2,c3,List.drop_of_length_le (by omega)]
 rfl
theorem open_area (h : DataW.trod enc Try.prog w 0 (fun _ => true) true fuel 41 cs = some x) : ∃ a b : Cn,cs = a.cells ++ b.cells ∧ a.ok ∧ b.ok:=by
 obtain ⟨xs,n,rfl,rfl,hl,hxs,hf⟩:=DataW.trod_struct Try.underlying41 h
 have hc : Try.prog.cellsOf 41 = 12:=by kernel_rfl
 have h6 : Try.prog.cellsOf 39 = 6:=by kernel_rfl
 obtain ⟨y0,e0⟩:=get_some hxs (show 0 < 2 by omega)
 obtain ⟨y1,e1⟩:=get_some hxs (show 1 < 2 by omega)
 have f0 : DataW.trod enc Try.prog w 0 (fun _ => true) true n 39 ((cs.drop 0).take (Try.prog.cellsOf 39)) = some y0:=(hf 0 _ rfl).trans e0
 have f1 : DataW.trod enc Try.prog w 0 (fun _ => true) true n 39 ((cs.drop 6).take (Try.prog.cellsOf 39)) = some y1:=(hf 1 _ rfl).trans e1
 rw [h6] at f0 f1
 obtain ⟨a,g0,k0⟩:=open_corner f0
 obtain ⟨b,g1,k1⟩:=open_corner f1
 refine ⟨a,b,?_,k0,k1⟩
 have c0:=cutL cs 0 6
 have c1:=cutL cs 6 6
 rw [g0,Nat.zero_add,List.drop_zero] at c0
 rw [g1] at c1
 rw [c0,c1,List.drop_of_length_le (by omega),List.append_nil]
theorem open_value (h : DataW.trod enc Try.prog w 0 (fun _ => true) true fuel 37 cs = some x) : ∃ v : Vl,cs = v.cells ∧ v.ok ∧ v.text.size ≤ Rows.uptoBulk x.1:=by
 obtain ⟨xs,n,rfl,rfl,hl,hxs,hf⟩:=DataW.trod_struct Try.underlying37 h
 have hc : Try.prog.cellsOf 37 = 6:=by kernel_rfl
 have h3 : Try.prog.cellsOf 3 = 1:=by kernel_rfl
 have h2 : Try.prog.cellsOf 35 = 2:=by kernel_rfl
 have h9 : Try.prog.cellsOf 9 = 1:=by kernel_rfl
 have h1 : Try.prog.cellsOf 4 = 1:=by kernel_rfl
 obtain ⟨y0,e0⟩:=get_some hxs (show 0 < 5 by omega)
 obtain ⟨y1,e1⟩:=get_some hxs (show 1 < 5 by omega)
 obtain ⟨y2,e2⟩:=get_some hxs (show 2 < 5 by omega)
 obtain ⟨y3,e3⟩:=get_some hxs (show 3 < 5 by omega)
 obtain ⟨y4,e4⟩:=get_some hxs (show 4 < 5 by omega)
 have f0 : DataW.trod enc Try.prog w 0 (fun _ => true) true n 3 ((cs.drop 0).take (Try.prog.cellsOf 3)) = some y0:=(hf 0 _ rfl).trans e0
 have f1 : DataW.trod enc Try.prog w 0 (fun _ => true) true n 35 ((cs.drop 1).take (Try.prog.cellsOf 35)) = some y1:=(hf 1 _ rfl).trans e1
 have f2 : DataW.trod enc Try.prog w 0 (fun _ => true) true n 9 ((cs.drop 3).take (Try.prog.cellsOf 9)) = some y2:=(hf 2 _ rfl).trans e2
 have f3 : DataW.trod enc Try.prog w 0 (fun _ => true) true n 4 ((cs.drop 4).take (Try.prog.cellsOf 4)) = some y3:=(hf 3 _ rfl).trans e3
 have f4 : DataW.trod enc Try.prog w 0 (fun _ => true) true n 3 ((cs.drop 5).take (Try.prog.cellsOf 3)) = some y4:=(hf 4 _ rfl).trans e4
 rw [h3] at f0 f4
 rw [h2] at f1
 rw [h9] at f2
 rw [h1] at f3
 obtain ⟨k,g0,-,w0⟩:=DataW.trod_int Try.underlying3 f0
 obtain ⟨m,ex,g1,w1,w2⟩:=open_num f1
 obtain ⟨s,g2,hy2,w3⟩:=DataW.trod_string Try.underlying9 f2
 obtain ⟨tr,g3,-⟩:=DataW.trod_bool Try.underlying4 f3
 obtain ⟨fa,g4,-,w4⟩:=DataW.trod_int Try.underlying3 f4
 refine ⟨⟨k,m,ex,s,tr,fa⟩,?_,⟨bounds_i64 w0,w1,w2,by unfold maxLen at w3; exact w3,bounds_i64 w4⟩,?_⟩
 · have c0:=cutL cs 0 1
   have c1:=cutL cs 1 2
   have c2:=cutL cs 3 1
   have c3:=cutL cs 4 1
   have c4:=cutL cs 5 1
   rw [g0,Nat.zero_add,List.drop_zero] at c0
   rw [g1] at c1
   rw [g2] at c2
   rw [g3] at c3
   rw [g4] at c4
   rw [c0,c1,c2,c3,c4,List.drop_of_length_le (by omega)]
   rfl
 · refine Nat.le_trans ?_ (bulk_field xs 2 y2 e2)
   rw [hy2]
   simp only [Rows.uptoBulk]
   have : s.data.toList.length = s.size:=by simp
   omega
end
def Tr.within (t : Tr) (k : Nat) : Prop:=t.size ≤ k ∧ ∀ y ∈ t.nodes,y.d.name.size ≤ k ∧ y.d.v.text.size ≤ k
theorem sizes_bulk {H : Type} : ∀ (l : List Tr) (ds : List (DataW H)),l.length = ds.length → (∀ i (h : i < l.length) (h' : i < ds.length),(l[i]).size ≤ Rows.uptoBulk ds[i]) → Tr.sizes l ≤ Rows.uptoBulkAll ds
 | [],_,_,_ => by simp [Tr.sizes]
 | t :: ts,[],h,_ => by simp at h
 | t :: ts,d :: ds,h,hk => by
   simp only [Tr.sizes,Rows.uptoBulkAll]
   have h0:=hk 0 (by simp) (by simp)
   have:=sizes_bulk ts ds (by simpa using h) (fun i h1 h2 => by have:=hk (i + 1) (by simp; omega) (by simp; omega); simpa using this)
   simp at h0
   omega
theorem nodess_mem : ∀ (l : List Tr) (y : Tr),y ∈ Tr.nodess l → ∃ t ∈ l,y ∈ t.nodes
 | [],_,h => by simp [Tr.nodess] at h
 | t :: ts,y,h => by
   simp only [Tr.nodess,List.mem_append] at h
   rcases h with h | h
   · exact ⟨t,by simp,h⟩
   · obtain ⟨t',h1,h2⟩:=nodess_mem ts y h
     exact ⟨t',by simp [h1],h2⟩
theorem open_node {H : Type} {enc : TypeId × Value → H} {w : World} : ∀ (fuel : Nat) (cs : List Value) (x : DataW H × List MemPlace), DataW.trod enc Try.prog w 0 (fun _ => true) true fuel 44 cs = some x →
   ∃ (t : Tr) (A : Option Addr) (c : Nat),cs = (nodeA t.d A t.l.length c).toList ∧ t.d.ok ∧ SlAt w w.heap.size A c t.l ∧ t.within (Rows.uptoBulk x.1):=by
 intro fuel
 induction fuel using Nat.strongRecOn with
 | _ fuel ih =>
   intro cs x h
   obtain ⟨xs,n,rfl,rfl,hl,hxs,hf⟩:=DataW.trod_struct Try.underlying44 h
   have hc : Try.prog.cellsOf 44 = 22:=by kernel_rfl
   have h3 : Try.prog.cellsOf 3 = 1:=by kernel_rfl
   have h6 : Try.prog.cellsOf 37 = 6:=by kernel_rfl
   have h9 : Try.prog.cellsOf 9 = 1:=by kernel_rfl
   have h12 : Try.prog.cellsOf 41 = 12:=by kernel_rfl
   have h1 : Try.prog.cellsOf 42 = 1:=by kernel_rfl
   obtain ⟨y0,e0⟩:=get_some hxs (show 0 < 6 by omega)
   obtain ⟨y1,e1⟩:=get_some hxs (show 1 < 6 by omega)
   obtain ⟨y2,e2⟩:=get_some hxs (show 2 < 6 by omega)
   obtain ⟨y3,e3⟩:=get_some hxs (show 3 < 6 by omega)
   obtain ⟨y4,e4⟩:=get_some hxs (show 4 < 6 by omega)
   obtain ⟨y5,e5⟩:=get_some hxs (show 5 < 6 by omega)
   have f0 : DataW.trod enc Try.prog w 0 (fun _ => true) true n 3 ((cs.drop 0).take (Try.prog.cellsOf 3)) = some y0:=(hf 0 _ rfl).trans e0
   have f1 : DataW.trod enc Try.prog w 0 (fun _ => true) true n 37 ((cs.drop 1).take (Try.prog.cellsOf 37)) = some y1:=(hf 1 _ rfl).trans e1
   have f2 : DataW.trod enc Try.prog w 0 (fun _ => true) true n 9 ((cs.drop 7).take (Try.prog.cellsOf 9)) = some y2:=(hf 2 _ rfl).trans e2
   have f3 : DataW.trod enc Try.prog w 0 (fun _ => true) true n 41 ((cs.drop 8).take (Try.prog.cellsOf 41)) = some y3:=(hf 3 _ rfl).trans e3
   have f4 : DataW.trod enc Try.prog w 0 (fun _ => true) true n 3 ((cs.drop 20).take (Try.prog.cellsOf 3)) = some y4:=(hf 4 _ rfl).trans e4
   have f5 : DataW.trod enc Try.prog w 0 (fun _ => true) true n 42 ((cs.drop 21).take (Try.prog.cellsOf 42)) = some y5:=(hf 5 _ rfl).trans e5
   rw [h3] at f0 f4
   rw [h6] at f1
   rw [h9] at f2
   rw [h12] at f3
   rw [h1] at f5
   obtain ⟨kd,g0,-,w0⟩:=DataW.trod_int Try.underlying3 f0
   obtain ⟨v,g1,w1,z1⟩:=open_value f1
   obtain ⟨s,g2,hy2,w2⟩:=DataW.trod_string Try.underlying9 f2
   obtain ⟨a,b,g3,w3,w3'⟩:=open_area f3
   obtain ⟨rw',g4,-,w4⟩:=DataW.trod_int Try.underlying3 f4
   have z1':=Nat.le_trans z1 (bulk_field xs 1 y1 e1)
   have z2' : s.size ≤ Rows.uptoBulk (DataW.agg (xs.map (·.1))):=by
     refine Nat.le_trans ?_ (bulk_field xs 2 y2 e2)
     rw [hy2]
     simp only [Rows.uptoBulk]
     have : s.data.toList.length = s.size:=by simp
     omega
   have z5:=bulk_field xs 5 y5 e5
   have z5' : Rows.uptoBulk y5.1 + 1 ≤ Rows.uptoBulk (DataW.agg (xs.map (·.1))):=by
     have:=bulk_mem (xs.map (·.1)) y5.1 (List.mem_map.2 ⟨y5,List.mem_of_getElem? e5,rfl⟩)
     simp only [Rows.uptoBulk]; omega
   have hform : ∀ (sl : Value),(cs.drop 21).take 1 = [sl] → cs = (ND.head ⟨kd,v,s,a,b,rw'⟩) ++ [sl]:=by
     intro sl g5
     have c0:=cutL cs 0 1
     have c1:=cutL cs 1 6
     have c2:=cutL cs 7 1
     have c3:=cutL cs 8 12
     have c4:=cutL cs 20 1
     have c5:=cutL cs 21 1
     rw [g0,Nat.zero_add,List.drop_zero] at c0
     rw [g1] at c1
     rw [g2] at c2
     rw [g3] at c3
     rw [g4] at c4
     rw [g5] at c5
     rw [c0,c1,c2,c3,c4,c5,List.drop_of_length_le (by omega)]
     simp [ND.head]
   have hok : ND.ok ⟨kd,v,s,a,b,rw'⟩:=⟨bounds_i64 w0,w1,by unfold maxLen at w2; exact w2,w3,w3',bounds_i64 w4⟩
   rcases DataW.trod_slice Try.underlying42 f5 with ⟨g5,-⟩ | ⟨ad,len,cap,elems,rest,m,rfl,g5,hy5,hbs,hlc,hcm,hel,hget,-,-⟩
   · refine ⟨.mk ⟨kd,v,s,a,b,rw'⟩ [],none,0,?_,hok,⟨by simp [Tr.l],by omega,.inl rfl⟩,?_,?_⟩
     · rw [hform _ g5]; rfl
     · simp [Tr.size,Tr.sizes]; omega
     · intro y hy
       simp [Tr.nodes,Tr.nodess] at hy
       subst hy
       exact ⟨z2',z1'⟩
   · have hkid : ∀ i (hi : i < elems.length),∃ (t : Tr) (A : Option Addr) (c : Nat),w.cells? 0 (ad.add (i * 22)) 22 = some (nodeA t.d A t.l.length c).toList ∧ t.d.ok ∧ SlAt w w.heap.size A c t.l ∧ t.within (Rows.uptoBulk elems[i].1):=by
       intro i hi
       have:=hget i (by omega)
       rw [hc,List.getElem?_eq_getElem hi,Option.bind_eq_some_iff] at this
       obtain ⟨cs',k1,k2⟩:=this
       obtain ⟨t,A,c,rfl,r⟩:=ih m (by omega) cs' _ k2
       exact ⟨t,A,c,k1,r⟩
     have hl' : ∃ l : List Tr,l.length = elems.length ∧ ∀ i (h : i < l.length) (h' : i < elems.length),∃ (A : Option Addr) (c : Nat),w.cells? 0 (ad.add (i * 22)) 22 = some (nodeA l[i].d A l[i].l.length c).toList ∧ l[i].d.ok ∧ SlAt w w.heap.size A c l[i].l ∧ l[i].within (Rows.uptoBulk elems[i].1):=by
       have : ∀ i : Fin elems.length,∃ t : Tr,∃ (A : Option Addr) (c : Nat),w.cells? 0 (ad.add (i.1 * 22)) 22 = some (nodeA t.d A t.l.length c).toList ∧ t.d.ok ∧ SlAt w w.heap.size A c t.l ∧ t.within (Rows.uptoBulk (elems[i.1]'i.2).1):=fun i => hkid i.1 i.2
       refine ⟨List.ofFn (fun i => Classical.choose (this i)),by simp,fun i h h' => ?_⟩
       have hs:=Classical.choose_spec (this ⟨i,h'⟩)
       rw [List.getElem_ofFn]
       exact hs
     obtain ⟨l,hll,hk⟩:=hl'
     have z5s : Rows.uptoBulkAll (elems.map (·.1)) + 1 ≤ Rows.uptoBulk y5.1:=by rw [hy5]; simp only [Rows.uptoBulk]; omega
     refine ⟨.mk ⟨kd,v,s,a,b,rw'⟩ l,some ad,cap,?_,hok,?_,?_,?_⟩
     · rw [hform _ g5]
       simp [nodeA,Tr.l,Tr.d,hll,hel]
     · refine ⟨by simp [Tr.l]; omega,by unfold maxLen at hcm; omega,?_⟩
       simp only [Tr.l]
       by_cases hz : l = []
       · exact .inl hz
       right
       have hpos : 0 < l.length:=List.length_pos_iff.2 hz
       obtain ⟨adb,ado,ads⟩:=ad
       obtain ⟨A0,c0,q0,-⟩:=hk 0 hpos (by omega)
       obtain ⟨-,-,q1⟩:=World.cells?_some q0
       have q2:=q1 0 (by omega)
       have hspot : ads = none:=by
         have : (nodeA l[0].d A0 l[0].l.length c0).toList[0]? = some (.int .i64 l[0].d.kind):=rfl
         rw [this] at q2
         simpa [Addr.add] using World.cell?_spot q2
       subst hspot
       refine ⟨adb,ado,rfl,KidsAt.of (fun i hi => ?_)⟩
       obtain ⟨A1,c1,r0,r1,r2,-⟩:=hk i hi (by omega)
       obtain ⟨-,-,r3⟩:=World.cells?_some r0
       have hcells : NodeCells w adb (ado + i * 22) l[i].d A1 l[i].l.length c1:=by
         intro j hj
         have:=r3 j hj
         have ea : ((⟨adb,ado,none⟩ : Addr).add (i * 22)).add j = ⟨adb,ado + i * 22 + j,none⟩:=by
           unfold Addr.add; split <;> split <;> simp_all
         rw [ea] at this
         rw [this]; simp
       have hblk : adb < w.heap.size:=by
         have:=hcells 0 (by omega)
         exact World.block_lt_of_cell? _ ⟨adb,ado + i * 22 + 0,none⟩ (this.trans rfl)
       exact NodeAt.mk hblk r1 hcells r2
     · simp only [Tr.size]
       have:=sizes_bulk l (elems.map (·.1)) (by simp [hll]) (fun i h1 h2 => by
         obtain ⟨_,_,_,_,_,hw,_⟩:=hk i h1 (by simpa using h2)
         simpa using hw)
       omega
     · intro y hy
       simp only [Tr.nodes,List.mem_cons] at hy
       rcases hy with rfl | hy
       · exact ⟨z2',z1'⟩
       · obtain ⟨t,ht,hyt⟩:=nodess_mem l y hy
         obtain ⟨i,hi,rfl⟩:=List.mem_iff_getElem.1 ht
         obtain ⟨_,_,_,_,_,_,hw⟩:=hk i hi (by omega)
         obtain ⟨q1,q2⟩:=hw y hyt
         have hb:=bulk_mem (elems.map (·.1)) elems[i].1 (List.mem_map.2 ⟨_,List.getElem_mem _,rfl⟩)
         dsimp only
         constructor <;> omega
end Go.Proofs.Ytbkmnboicihchaa
namespace Go.Proofs.Ytbkmnboicihchaa
set_option maxHeartbeats 1000000
open Go.RowKit Go.ChangeShapes Go.WideShapes Go.ChangeAt
theorem open_content {H : Type} {enc : TypeId × Value → H} {w : World} (fuel : Nat) (cs : List Value) (x : DataW H × List MemPlace) (h : DataW.trod enc Try.prog w 0 (fun _ => true) true fuel 46 cs = some x) :
   ∃ (y : Ct) (A : Option Addr) (c : Nat),cs = (contA y A c).toList ∧ y.v.ok ∧ y.t.d.ok ∧ SlAt w w.heap.size A c y.t.l ∧ y.t.within (Rows.uptoBulk x.1) ∧ y.v.text.size ≤ Rows.uptoBulk x.1:=by
 obtain ⟨xs,n,rfl,rfl,hl,hxs,hf⟩:=DataW.trod_struct Try.underlying46 h
 have hc : Try.prog.cellsOf 46 = 29:=by kernel_rfl
 have h3 : Try.prog.cellsOf 3 = 1:=by kernel_rfl
 have h6 : Try.prog.cellsOf 37 = 6:=by kernel_rfl
 have h22 : Try.prog.cellsOf 44 = 22:=by kernel_rfl
 obtain ⟨y0,e0⟩:=get_some hxs (show 0 < 3 by omega)
 obtain ⟨y1,e1⟩:=get_some hxs (show 1 < 3 by omega)
 obtain ⟨y2,e2⟩:=get_some hxs (show 2 < 3 by omega)
 have f0 : DataW.trod enc Try.prog w 0 (fun _ => true) true n 3 ((cs.drop 0).take (Try.prog.cellsOf 3)) = some y0:=(hf 0 _ rfl).trans e0
 have f1 : DataW.trod enc Try.prog w 0 (fun _ => true) true n 37 ((cs.drop 1).take (Try.prog.cellsOf 37)) = some y1:=(hf 1 _ rfl).trans e1
 have f2 : DataW.trod enc Try.prog w 0 (fun _ => true) true n 44 ((cs.drop 7).take (Try.prog.cellsOf 44)) = some y2:=(hf 2 _ rfl).trans e2
 rw [h3] at f0
 rw [h6] at f1
 rw [h22] at f2
 obtain ⟨k,g0,-,w0⟩:=DataW.trod_int Try.underlying3 f0
 obtain ⟨v,g1,w1,z1⟩:=open_value f1
 obtain ⟨t,A,c,g2,w2,w3,w4⟩:=open_node n _ _ f2
 refine ⟨⟨k,v,t⟩,A,c,?_,w1,w2,w3,?_,Nat.le_trans z1 (bulk_field xs 1 y1 e1)⟩
 · have c0:=cutL cs 0 1
   have c1:=cutL cs 1 6
   have c2:=cutL cs 7 22
   rw [g0,Nat.zero_add,List.drop_zero] at c0
   rw [g1] at c1
   rw [g2] at c2
   rw [c0,c1,c2,List.drop_of_length_le (by omega)]
   simp [contA,Ct.head]
 · have hb:=bulk_field xs 2 y2 e2
   exact ⟨Nat.le_trans w4.1 hb,fun z hz => ⟨Nat.le_trans (w4.2 z hz).1 hb,Nat.le_trans (w4.2 z hz).2 hb⟩⟩
end Go.Proofs.Ytbkmnboicihchaa
namespace Go.Proofs.Ytbkmnboicihchaa
set_option maxRecDepth 100000
set_option maxHeartbeats 1000000
set_option linter.unusedSimpArgs false
set_option linter.unusedVariables false
open Go.RowKit Go.ChangeShapes Go.WideShapes Go.ChangeAt
section
variable {H : Type} {enc : TypeId × Value → H} {w : World} {fuel : Nat} {cs : List Value} {x : DataW H × List MemPlace}
theorem open_ad (h : DataW.trod enc Try.prog w 0 (fun _ => true) true fuel 33 cs = some x) : ∃ a : Ad,cs = a.vals ∧ a.ok:=by
 obtain ⟨xs,n,rfl,rfl,hl,hxs,hf⟩:=DataW.trod_struct Try.underlying33 h
 have hc : Try.prog.cellsOf 33 = 4:=by kernel_rfl
 have h2 : Try.prog.cellsOf 31 = 2:=by kernel_rfl
 obtain ⟨y0,e0⟩:=get_some hxs (show 0 < 2 by omega)
 obtain ⟨y1,e1⟩:=get_some hxs (show 1 < 2 by omega)
 have f0 : DataW.trod enc Try.prog w 0 (fun _ => true) true n 31 ((cs.drop 0).take (Try.prog.cellsOf 31)) = some y0:=(hf 0 _ rfl).trans e0
 have f1 : DataW.trod enc Try.prog w 0 (fun _ => true) true n 31 ((cs.drop 2).take (Try.prog.cellsOf 31)) = some y1:=(hf 1 _ rfl).trans e1
 rw [h2] at f0 f1
 obtain ⟨ra,rn,g0,k0,k1⟩:=open_id f0
 obtain ⟨ca,cn,g1,k2,k3⟩:=open_id f1
 refine ⟨⟨ra,rn,ca,cn⟩,?_,k0,k1,k2,k3⟩
 have c0:=cutL cs 0 2
 have c1:=cutL cs 2 2
 rw [g0,Nat.zero_add,List.drop_zero] at c0
 rw [g1] at c1
 rw [c0,c1,List.drop_of_length_le (by omega)]
 rfl
theorem open_ads (h : DataW.trod enc Try.prog w 0 (fun _ => true) true fuel 58 cs = some x) : ∃ (l : List Ad) (A : Option Addr) (c : Nat),cs = [.slice A l.length c] ∧ AdSl w w.heap.size A c l:=by
 have hc : Try.prog.cellsOf 33 = 4:=by kernel_rfl
 rcases DataW.trod_slice Try.underlying58 h with ⟨g5,-⟩ | ⟨ad,len,cap,elems,rest,m,rfl,g5,hy5,hbs,hlc,hcm,hel,hget,-,-⟩
 · exact ⟨[],none,0,g5,⟨by simp,by omega,fun y hy => (by cases hy),.inl rfl⟩⟩
 · have hkid : ∀ i (hi : i < elems.length),∃ s : Ad,w.cells? 0 (ad.add (i * 4)) 4 = some s.vals ∧ s.ok:=by
     intro i hi
     have:=hget i (by omega)
     rw [hc,List.getElem?_eq_getElem hi,Option.bind_eq_some_iff] at this
     obtain ⟨cs',k1,k2⟩:=this
     obtain ⟨s,rfl,r⟩:=open_ad k2
     exact ⟨s,k1,r⟩
   have hl' : ∃ l : List Ad,l.length = elems.length ∧ ∀ i (h : i < l.length),w.cells? 0 (ad.add (i * 4)) 4 = some l[i].vals ∧ l[i].ok:=by
     have : ∀ i : Fin elems.length,∃ s : Ad,w.cells? 0 (ad.add (i.1 * 4)) 4 = some s.vals ∧ s.ok:=fun i => hkid i.1 i.2
     refine ⟨List.ofFn (fun i => Classical.choose (this i)),by simp,fun i h => ?_⟩
     have hs:=Classical.choose_spec (this ⟨i,by simpa using h⟩)
     rw [List.getElem_ofFn]
     exact hs
   obtain ⟨l,hll,hk⟩:=hl'
   refine ⟨l,some ad,cap,by rw [g5,hll,hel],⟨by omega,by unfold maxLen at hcm; omega,fun y hy => ?_,?_⟩⟩
   · obtain ⟨i,hi,rfl⟩:=List.mem_iff_getElem.1 hy
     exact (hk i hi).2
   · by_cases hz : l = []
     · exact .inl hz
     right
     have hpos : 0 < l.length:=List.length_pos_iff.2 hz
     obtain ⟨adb,ado,ads⟩:=ad
     obtain ⟨q0,-⟩:=hk 0 hpos
     obtain ⟨-,-,q1⟩:=World.cells?_some q0
     have q2:=q1 0 (by omega)
     have hspot : ads = none:=by
       have : l[0].vals[0]? = some (.int .i64 l[0].ra):=rfl
       rw [this] at q2
       simpa [Addr.add] using World.cell?_spot q2
     subst hspot
     have hcells : ∀ j (h : j < l.length),w.rangeAt adb (ado + j * 4) l[j].vals:=by
       intro j hj i v hv
       obtain ⟨r0,-⟩:=hk j hj
       obtain ⟨-,-,r3⟩:=World.cells?_some r0
       have hi : i < 4:=by
         have:=(List.getElem?_eq_some_iff.1 hv).1
         simpa [Ad.vals] using this
       have:=r3 i hi
       have ea : ((⟨adb,ado,none⟩ : Addr).add (j * 4)).add i = ⟨adb,ado + j * 4 + i,none⟩:=by
         unfold Addr.add; split <;> split <;> simp_all
       rw [ea] at this
       exact this.trans hv
     exact ⟨adb,ado,rfl,World.block_lt_of_cell? _ ⟨adb,ado + 0 * 4 + 0,none⟩ (hcells 0 hpos 0 (.int .i64 l[0].ra) rfl),hcells⟩
theorem open_ac (h : DataW.trod enc Try.prog w 0 (fun _ => true) true fuel 97 cs = some x) : ∃ (e : Ad × Ct) (A : Option Addr) (c : Nat),cs = e.1.vals ++ (contA e.2 A c).toList ∧ (e.1.ok ∧ e.2.v.ok ∧ e.2.t.d.ok ∧ e.2.t.size ≤ Rows.uptoBulk x.1) ∧ SlAt w w.heap.size A c e.2.t.l:=by
 obtain ⟨xs,n,rfl,rfl,hl,hxs,hf⟩:=DataW.trod_struct Try.underlying97 h
 have hc : Try.prog.cellsOf 97 = 33:=by kernel_rfl
 have h4 : Try.prog.cellsOf 33 = 4:=by kernel_rfl
 have h29 : Try.prog.cellsOf 46 = 29:=by kernel_rfl
 obtain ⟨y0,e0⟩:=get_some hxs (show 0 < 2 by omega)
 obtain ⟨y1,e1⟩:=get_some hxs (show 1 < 2 by omega)
 have f0 : DataW.trod enc Try.prog w 0 (fun _ => true) true n 33 ((cs.drop 0).take (Try.prog.cellsOf 33)) = some y0:=(hf 0 _ rfl).trans e0
 have f1 : DataW.trod enc Try.prog w 0 (fun _ => true) true n 46 ((cs.drop 4).take (Try.prog.cellsOf 46)) = some y1:=(hf 1 _ rfl).trans e1
 rw [h4] at f0
 rw [h29] at f1
 obtain ⟨a,g0,w0⟩:=open_ad f0
 obtain ⟨y,A,c,g1,w1,w2,w3,w4,-⟩:=open_content n _ _ f1
 refine ⟨(a,y),A,c,?_,⟨w0,w1,w2,Nat.le_trans w4.1 (bulk_field xs 1 y1 e1)⟩,w3⟩
 have c0:=cutL cs 0 4
 have c1:=cutL cs 4 29
 rw [g0,Nat.zero_add,List.drop_zero] at c0
 rw [g1] at c1
 rw [c0,c1,List.drop_of_length_le (by omega),List.append_nil]
theorem open_acs (h : DataW.trod enc Try.prog w 0 (fun _ => true) true fuel 59 cs = some x) (hz : Rows.uptoBulk x.1 ≤ 1048576) : ∃ (l : List (Ad × Ct)) (A : Option Addr) (c : Nat),cs = [.slice A l.length c] ∧ ACSl w w.heap.size A c l:=by
 have hc : Try.prog.cellsOf 97 = 33:=by kernel_rfl
 rcases DataW.trod_slice Try.underlying59 h with ⟨g5,-⟩ | ⟨ad,len,cap,elems,rest,m,rfl,g5,hy5,hbs,hlc,hcm,hel,hget,-,-⟩
 · exact ⟨[],none,0,g5,⟨by simp,by omega,fun y hy => (by cases hy),.inl rfl⟩⟩
 · have hkid : ∀ i (hi : i < elems.length),∃ (s : Ad × Ct) (A' : Option Addr) (c' : Nat),w.cells? 0 (ad.add (i * 33)) 33 = some (s.1.vals ++ (contA s.2 A' c').toList) ∧ (s.1.ok ∧ s.2.v.ok ∧ s.2.t.d.ok ∧ s.2.t.size ≤ 1048576) ∧ SlAt w w.heap.size A' c' s.2.t.l:=by
     intro i hi
     have:=hget i (by omega)
     rw [hc,List.getElem?_eq_getElem hi,Option.bind_eq_some_iff] at this
     obtain ⟨cs',k1,k2⟩:=this
     obtain ⟨s,A',c',rfl,r1,r2⟩:=open_ac k2
     have hb:=bulk_mem ((elems.map (·.1)) ++ (rest.map (·.1))) elems[i].1 (List.mem_append.2 (.inl (List.mem_map.2 ⟨_,List.getElem_mem _,rfl⟩)))
     have hb2 : Rows.uptoBulk elems[i].1 ≤ 1048576:=by
       have h3:=bulk_mem (elems.map (·.1)) elems[i].1 (List.mem_map.2 ⟨_,List.getElem_mem _,rfl⟩)
       rw [hy5] at hz
       simp only [Rows.uptoBulk] at hz
       omega
     exact ⟨s,A',c',k1,⟨r1.1,r1.2.1,r1.2.2.1,Nat.le_trans r1.2.2.2 hb2⟩,r2⟩
   have hl' : ∃ l : List (Ad × Ct),l.length = elems.length ∧ ∀ i (h : i < l.length),∃ (A' : Option Addr) (c' : Nat),w.cells? 0 (ad.add (i * 33)) 33 = some (l[i].1.vals ++ (contA l[i].2 A' c').toList) ∧ (l[i].1.ok ∧ l[i].2.v.ok ∧ l[i].2.t.d.ok ∧ l[i].2.t.size ≤ 1048576) ∧ SlAt w w.heap.size A' c' l[i].2.t.l:=by
     have : ∀ i : Fin elems.length,∃ (s : Ad × Ct) (A' : Option Addr) (c' : Nat),w.cells? 0 (ad.add (i.1 * 33)) 33 = some (s.1.vals ++ (contA s.2 A' c').toList) ∧ (s.1.ok ∧ s.2.v.ok ∧ s.2.t.d.ok ∧ s.2.t.size ≤ 1048576) ∧ SlAt w w.heap.size A' c' s.2.t.l:=fun i => hkid i.1 i.2
     refine ⟨List.ofFn (fun i => Classical.choose (this i)),by simp,fun i h => ?_⟩
     have hs:=Classical.choose_spec (this ⟨i,by simpa using h⟩)
     rw [List.getElem_ofFn]
     exact hs
   obtain ⟨l,hll,hk⟩:=hl'
   refine ⟨l,some ad,cap,by rw [g5,hll,hel],⟨by omega,by unfold maxLen at hcm; omega,fun y hy => ?_,?_⟩⟩
   · obtain ⟨i,hi,rfl⟩:=List.mem_iff_getElem.1 hy
     obtain ⟨_,_,-,r,-⟩:=hk i hi
     exact r
   · by_cases hz : l = []
     · exact .inl hz
     right
     have hpos : 0 < l.length:=List.length_pos_iff.2 hz
     obtain ⟨adb,ado,ads⟩:=ad
     obtain ⟨A0,c0,q0,-⟩:=hk 0 hpos
     obtain ⟨-,-,q1⟩:=World.cells?_some q0
     have q2:=q1 0 (by omega)
     have hspot : ads = none:=by
       have : (l[0].1.vals ++ (contA l[0].2 A0 c0).toList)[0]? = some (.int .i64 l[0].1.ra):=rfl
       rw [this] at q2
       simpa [Addr.add] using World.cell?_spot q2
     subst hspot
     have hcells : ∀ j (h : j < l.length),∃ (A' : Option Addr) (c' : Nat),w.rangeAt adb (ado + j * 33) (l[j].1.vals ++ (contA l[j].2 A' c').toList) ∧ SlAt w w.heap.size A' c' l[j].2.t.l:=by
       intro j hj
       obtain ⟨A',c',r0,-,r2⟩:=hk j hj
       refine ⟨A',c',fun i v hv => ?_,r2⟩
       obtain ⟨-,-,r3⟩:=World.cells?_some r0
       have hi : i < 33:=(List.getElem?_eq_some_iff.1 hv).1
       have:=r3 i hi
       have ea : ((⟨adb,ado,none⟩ : Addr).add (j * 33)).add i = ⟨adb,ado + j * 33 + i,none⟩:=by
         unfold Addr.add; split <;> split <;> simp_all
       rw [ea] at this
       exact this.trans hv
     obtain ⟨A1,c1,r1,-⟩:=hcells 0 hpos
     exact ⟨adb,ado,rfl,World.block_lt_of_cell? _ ⟨adb,ado + 0 * 33 + 0,none⟩ (r1 0 (.int .i64 l[0].1.ra) rfl),hcells⟩
theorem bounds_u8 {n : Int} (h : (Lit.int .u8 n).wf = true) : 0 ≤ n ∧ n < 256:=by
 have hx : 0 ≤ n ∧ n ≤ 255:=by simpa [Lit.wf,IntKind.min,IntKind.max,IntKind.signed,IntKind.bits] using h
 omega
end
theorem open_plan {H : Type} {enc : TypeId × Value → H} {w : World} {base : Nat} {v : Value} {d : DataW H} {p : List MemPlace} (hv : Value.okWide Try.prog w .any base 61 v) (h : DataW.Trod enc Try.prog w 0 (fun _ => true) true 61 v d p) (hz : Rows.uptoBulk d ≤ 1048576) :
   ∃ (P : Pn) (Ad : Option Addr) (cd : Nat) (Ac : Option Addr) (cc : Nat),v = .agg (P.val Ad cd Ac cc) ∧ P.rows < 256 ∧ P.cols < 256 ∧ AdSl w w.heap.size Ad cd P.dead ∧ ACSl w w.heap.size Ac cc P.cells:=by
 obtain ⟨v0,v1,v2,v3,y0,y1,y2,y3,n,rfl,hd,-,h0,h1,h2,h3⟩:=Go.Joins.open_agg4 Try.underlying61 (by kernel_rfl) (by kernel_rfl) hv h
 obtain ⟨a0,g0,-,w0⟩:=DataW.trod_int Try.underlying5 h0
 obtain ⟨a1,g1,-,w1⟩:=DataW.trod_int Try.underlying5 h1
 obtain ⟨l,A,c,g2,w2⟩:=open_ads h2
 have hz3 : Rows.uptoBulk y3.1 ≤ 1048576:=by
   rw [hd] at hz
   simp only [Rows.uptoBulk,Rows.uptoBulkAll] at hz
   omega
 obtain ⟨l',A',c',g3,w3⟩:=open_acs h3 hz3
 simp only [List.cons.injEq,and_true] at g0 g1 g2 g3
 subst g0 g1 g2 g3
 obtain ⟨u0,u1⟩:=bounds_u8 w0
 obtain ⟨u2,u3⟩:=bounds_u8 w1
 refine ⟨⟨a0.toNat,a1.toNat,l,l'⟩,A,c,A',c',?_,by show a0.toNat < 256; omega,by show a1.toNat < 256; omega,w2,w3⟩
 unfold Pn.val
 dsimp only
 rw [Int.toNat_of_nonneg u0,Int.toNat_of_nonneg u2]
theorem open_nodeT {H : Type} {enc : TypeId × Value → H} {w : World} {base : Nat} {v : Value} {d : DataW H} {p : List MemPlace} (hv : Value.okWide Try.prog w .any base 44 v) (h : DataW.Trod enc Try.prog w 0 (fun _ => true) true 44 v d p) :
   ∃ (t : Tr) (A : Option Addr) (c : Nat),v = nodeV t.d A t.l.length c ∧ t.d.ok ∧ SlAt w w.heap.size A c t.l ∧ t.within (Rows.uptoBulk d):=by
 obtain ⟨cs,rfl,hsz⟩:=okWide_struct Try.underlying44 hv
 obtain ⟨fuel,hf⟩:=h
 obtain ⟨t,A,c,h1,h2,h3,h4⟩:=open_node fuel _ _ hf
 refine ⟨t,A,c,?_,h2,h3,h4⟩
 have : cs = nodeA t.d A t.l.length c:=by
   have h1' : cs.toList = (nodeA t.d A t.l.length c).toList:=h1
   exact Array.toList_inj.1 h1'
 rw [this]
def Cl.okk (x : Cl) : Prop:=x.row.ok ∧ x.col.ok
theorem list_take3 {l : List Value} (h : l.length = 12) : l = (l.drop 0).take 4 ++ ((l.drop 4).take 4 ++ (l.drop 8).take 4):=by
 have h8 : (l.drop 8).take 4 = l.drop 8:=List.take_of_length_le (by rw [List.length_drop]; omega)
 have h4 : (l.drop 4).take 4 ++ l.drop 8 = l.drop 4:=by rw [show l.drop 8 = (l.drop 4).drop 4 by rw [List.drop_drop]]; exact List.take_append_drop 4 _
 rw [h8,h4,List.drop_zero,List.take_append_drop]
theorem list_take2 {l : List Value} (h : l.length = 8) : l = (l.drop 0).take 4 ++ (l.drop 4).take 4:=by
 have h8 : (l.drop 4).take 4 = l.drop 4:=List.take_of_length_le (by rw [List.length_drop]; omega)
 rw [h8,List.drop_zero,List.take_append_drop]
theorem open_cornV {H : Type} {enc : TypeId × Value → H} {w : World} {base : Nat} {v : Value} {d : DataW H} {p : List MemPlace} (hv : Value.okWide Try.prog w .any base 39 v) (h : DataW.Trod enc Try.prog w 0 (fun _ => true) true 39 v d p) :
   ∃ c : Cn,v = .agg c.cells.toArray ∧ c.ok:=by
 obtain ⟨cs,rfl,hsz⟩:=okWide_struct Try.underlying39 hv
 obtain ⟨fuel,hf⟩:=h
 obtain ⟨c,h1,h2⟩:=open_corner hf
 refine ⟨c,?_,h2⟩
 have : cs = c.cells.toArray:=by
   have h1' : cs.toList = c.cells:=h1
   rw [← h1',Array.toArray_toList]
 rw [this]
end Go.Proofs.Ytbkmnboicihchaa
