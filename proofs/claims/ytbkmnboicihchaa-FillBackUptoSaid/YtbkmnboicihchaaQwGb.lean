/- FillBack,whole. What a row's reading of three cells gives. -/
import Derived.Test.YtbkmnboicihchaaQqQrQsQtQu
import Derived.Test.YtbkmnboicihchaaQlItQxOg0Xk0Ga
namespace Go.Proofs.Ytbkmnboicihchaa
set_option maxRecDepth 100000
set_option maxHeartbeats 8000000
set_option linter.unusedSimpArgs false
set_option linter.unusedVariables false
open Go Go.RowKit Go.Shelf Go.Maps
theorem fillBack_c (t : Tr) (x0 x1 x2 : Cl) (P : Pn) (w : World) (A : Option Addr) (c : Nat) (Adx : Option Addr) (cd : Nat) (Acx : Option Addr) (cc : Nat)
   (hd : t.d.ok) (hs : SlAt w w.heap.size A c t.l) (hz : t.size ≤ 1048576) (hx : (x0.row.ok ∧ x0.col.ok) ∧ (x1.row.ok ∧ x1.col.ok) ∧ (x2.row.ok ∧ x2.col.ok)) (hr : P.rows < 256) (hc : P.cols < 256) (hdd : AdSl w w.heap.size Adx cd P.dead) (hce : ACSl w w.heap.size Acx cc P.cells) :
   Calls Try.prog 4 #[nodeV t.d A t.l.length c,.agg (x0.vals ++ (x1.vals ++ x2.vals)).toArray,.agg (P.val Adx cd Acx cc)] w fun e w' => e = .returned (.bool true) ∧ Below w.heap.size w w':=by
 obtain ⟨g,hg⟩ : ∃ g,g = w.heap.size:=⟨_,rfl⟩
 obtain ⟨NV,hNV⟩ : ∃ N,N = nodeA t.d A t.l.length c:=⟨_,rfl⟩
 obtain ⟨XV,hXV⟩ : ∃ N,N = (x0.vals ++ (x1.vals ++ x2.vals)).toArray:=⟨_,rfl⟩
 obtain ⟨PV,hPV⟩ : ∃ N,N = P.val Adx cd Acx cc:=⟨_,rfl⟩
 obtain ⟨W,hW⟩ : ∃ W,W = ((w.alloc (.cells NV 44)).alloc (.cells XV 57)).alloc (.cells PV 61):=⟨_,rfl⟩
 have hbW : Below w.heap.size w W:=by rw [hW]; exact (((Below.refl _ w).alloc (Nat.le_refl _) _).alloc (by simp) _).alloc (by simp; omega) _
 have hk0 : W.heap[g]? = some (.cells NV 44) ∧ W.heap[g + 1]? = some (.cells XV 57) ∧ W.heap[g + 2]? = some (.cells PV 61):=by
   rw [hW,hg]
   refine ⟨?_,?_,?_⟩ <;> (simp only [heapAllocIf,World.size_alloc]; repeat (first | rw [if_pos trivial] | rw [if_pos (by omega)] | rw [if_neg (by omega)]))
 have hWs : W.heap.size = g + 3:=by rw [hW,hg]; simp
 have hinP : (Try.prog.info? 61).map (·.size) = some PV.size:=by rw [hPV]; kernel_rfl
 have hunP : Try.prog.underlying 61 = some (.struct (Try.prog.fieldsOf 61)):=by kernel_rfl
 have hBD : ∀ wx,Below W.heap.size W wx → wx.heap[g + 2]? = some (.cells PV 61) ∧ Calls Try.prog 12 #[.agg PV] wx (BuiltPost P wx):=fun wx h => by
   have hbx:=hbW.trans (h.mono hbW.size)
   refine ⟨(h.block _ (by omega)).trans hk0.2.2,?_⟩
   rw [hPV]
   exact build_c P wx Adx cd Acx cc hr hc (hdd.below hbx hbx.size) (hce.below hbx hbx.size)
 have hFB : ∀ (w1 W2 : World) (s p q ce na n : Nat) (C : List (Ad × Ct)) (Zr Zc Zs : Nat → Prop), Below W.heap.size W w1 → Below w1.heap.size w1 W2 → ShZ W2 w1.heap.size s p q ce na n ((P.dead.map Ad.row).foldl kill (allL (freshL (P.rows % 10)))) ((P.dead.map Ad.col).foldl kill (allL (freshL (P.cols % 10)))) C Zr Zc Zs →
     ∀ (u0 u1 u2 u5 u6 u8 u9 u11 u12 u13 u14 u15 u16 u17 u18 u19 u20 u21 u22 u23 u24 u25 u26 u27 u28 u29 u30 u31 u32 u33 u34 u35 u36 u37 u38 u39 u40 u41 u42 u43 u44 u45 u46 u47 u48 u49 u50 u51 u52 u53 u54 u55 u56 u57 u58 u59 u60 u61 u62 u63 u64 u65 u66 u67 u68 u69 u70 u71 u72 u73 u74 u75 u76 u77 u78 u79 u80 u81 u82 u83 u84 u85 u86 u87 u88 u89 u90 u91 u92 u93 u94 u95 u96 u97 u98 u99 u100 u101 u102 u103 u104 u105 u106 u107 u108 u109 u110 u111 u112 u113 u114 u115 u116 u117 u118 u119 u120 u121 u122 u123 u124 u125 u126 u127 u128 u129 u130 u131 u132 u133 u134 u135 u136 u137 u138 u139 u140 u141 : Value),(fromRegion 4 backC).wp Try.prog (bodyPost Try.prog Try.f4 (fun e w' => e = .returned (.bool true) ∧ Below w.heap.size w w')) ⟨#[u0,u1,u2,.pointer (some ⟨g,0,none⟩),.pointer (some ⟨g + 1,0,none⟩),u5,u6,.pointer (some ⟨s,0,none⟩),u8,u9,.int .i64 1,u11,u12,u13,u14,u15,u16,u17,u18,u19,u20,u21,u22,u23,u24,u25,u26,u27,u28,u29,u30,u31,u32,u33,u34,u35,u36,u37,u38,u39,u40,u41,u42,u43,u44,u45,u46,u47,u48,u49,u50,u51,u52,u53,u54,u55,u56,u57,u58,u59,u60,u61,u62,u63,u64,u65,u66,u67,u68,u69,u70,u71,u72,u73,u74,u75,u76,u77,u78,u79,u80,u81,u82,u83,u84,u85,u86,u87,u88,u89,u90,u91,u92,u93,u94,u95,u96,u97,u98,u99,u100,u101,u102,u103,u104,u105,u106,u107,u108,u109,u110,u111,u112,u113,u114,u115,u116,u117,u118,u119,u120,u121,u122,u123,u124,u125,u126,u127,u128,u129,u130,u131,u132,u133,u134,u135,u136,u137,u138,u139,u140,u141],[]⟩ W2:=by
   intro w1 W2 s p q ce na n C Zr Zc Zs hb1 hb2 hsh u0 u1 u2 u5 u6 u8 u9 u11 u12 u13 u14 u15 u16 u17 u18 u19 u20 u21 u22 u23 u24 u25 u26 u27 u28 u29 u30 u31 u32 u33 u34 u35 u36 u37 u38 u39 u40 u41 u42 u43 u44 u45 u46 u47 u48 u49 u50 u51 u52 u53 u54 u55 u56 u57 u58 u59 u60 u61 u62 u63 u64 u65 u66 u67 u68 u69 u70 u71 u72 u73 u74 u75 u76 u77 u78 u79 u80 u81 u82 u83 u84 u85 u86 u87 u88 u89 u90 u91 u92 u93 u94 u95 u96 u97 u98 u99 u100 u101 u102 u103 u104 u105 u106 u107 u108 u109 u110 u111 u112 u113 u114 u115 u116 u117 u118 u119 u120 u121 u122 u123 u124 u125 u126 u127 u128 u129 u130 u131 u132 u133 u134 u135 u136 u137 u138 u139 u140 u141
   have hbx:=hbW.trans (hb1.mono hbW.size)
   have hg1 : g + 3 ≤ w1.heap.size:=by have:=hb1.size; omega
   have hkx : ∀ {b : Nat} {cs : Array Value} {ty : TypeId},b < g + 3 → W.heap[b]? = some (.cells cs ty) → W2.heap[b]? = some (.cells cs ty):=fun h1 h2 => (hb2.block _ (by omega)).trans ((hb1.block _ (by omega)).trans h2)
   have hs1 : SlAt w1 w1.heap.size A c t.l:=(hs.below hbx).more hbx.size
   have hs2 : SlAt W2 w1.heap.size A c t.l:=hs1.below hb2
   obtain ⟨a1,a2,a3⟩:=hsh.apart
   refine fb4 u0 u1 u2 u5 u6 u8 u9 u11 u12 u13 u14 u15 u16 u17 u18 u19 u20 u21 u22 u23 u24 u25 u26 u27 u28 u29 u30 u31 u32 u33 u34 u35 u36 u37 u38 u39 u40 u41 u42 u43 u44 u45 u46 u47 u48 u49 u50 u51 u52 u53 u54 u55 u56 u57 u58 u59 u60 u61 u62 u63 u64 u65 u66 u67 u68 u69 u70 u71 u72 u73 u74 u75 u76 u77 u78 u79 u80 u81 u82 u83 u84 u85 u86 u87 u88 u89 u90 u91 u92 u93 u94 u95 u96 u97 u98 u99 u100 u101 u102 u103 u104 u105 u106 u107 u108 u109 u110 u111 u112 u113 u114 u115 u116 u117 u118 u119 u120 u121 u122 u123 u124 u125 u126 u127 u128 u129 u130 u131 u132 u133 u134 u135 u136 u137 u138 u139 u140 u141 W2 _ g (g + 1) s p q _ _ x0 x1 x2 _ _ t A c w1.heap.size ⟨by rw [← hNV]; exact hkx (by omega) hk0.1,hs2.more hb2.size⟩ hs2 hd hz (by rw [← hXV]; exact hkx (by omega) hk0.2.1) hsh.own hsh.rows.ax hsh.cols.ax a1 (built_Ok _ _) (built_Ok _ _) hx hb2.size ⟨a2,a3⟩ ?_
   exact fun w' h => ⟨rfl,hbx.trans ((hb2.trans h).mono hbx.size)⟩
 dsimp only at hFB
 have HFB:=Lib.hid hFB
 have HAW:=Lib.hid (awake28_c W)
 have HBD:=Lib.hid hBD
 have HINP:=Lib.hid hinP
 have HUNP:=Lib.hid hunP
 have HW:=Lib.hid hW
 have HG:=Lib.hid hg
 have HBW:=Lib.hid hbW
 rw [nodeV,← hNV,← hXV,← hPV]
 clear hFB hBD hinP hunP hW hg hbW hk0 hWs hNV hXV hPV hd hs hz hx hr hc hdd hce
 go_enter Try.func4,Try.ntmps4
 have e4:=cut_from 4 backC
 obtain ⟨CO,hCO⟩ : ∃ C,C = fromRegion 4 backC:=⟨_,rfl⟩
 rw [← hCO] at e4
 have HCO:=Lib.hid hCO
 clear hCO
 change Code.wp Try.prog backC _ _ _
 rw [← e4]
 clear e4
 conv => arg 2; whnf; repeat (arg 2; whnf)
 go_upto_region 1 with (fail)
 change Code.wp _ _ _ _ (((w.alloc (.cells NV 44)).alloc (.cells XV 57)).alloc (.cells PV 61))
 rw [← HW.out,← HG.out]
 go_wp2_with (first | (go_at_call 6; refine HAW.out.mono ?_; rintro e w1 ⟨rfl,hb⟩; have HB:=Lib.hid hb; clear hb) | (refine wpList_row rfl 61 _ rfl (g + 2) rfl 61 PV (0,0) _ (HBD.out _ HB.out).1 HUNP.out rfl HINP.out ?_) | (go_at_call 12; refine (HBD.out _ HB.out).2.mono ?_; rintro e w2 hbp; obtain ⟨v7,v8,v9,k,rfl,hbb,hk⟩:=built_form hbp; have HBB:=Lib.hid hbb; have HKK:=Lib.hid hk; clear hbp hbb hk) | fail)
 rw [HCO.out]
 rcases HKK.out with hk | ⟨hk,s,p,q,ce,na,n,A1,c1,A2,c2,C,Zr,Zc,Zs,h7,h8,h9,hsh,-,-⟩
 · subst hk
   clear HFB HKK
   conv => arg 2; whnf; repeat (arg 2; whnf)
   go_wp2
   first | go_ret | go_ret2
   exact ⟨rfl,HBW.out.trans ((HB.out.trans (HBB.out.mono HB.out.size)).mono HBW.out.size)⟩
 · subst hk h7 h8 h9
   exact HFB.out w1 w2 s p q ce na n C Zr Zc Zs HB.out HBB.out hsh _ _ _ _ _ _ _ _ _ _ _ _ _ _ _ _ _ _ _ _ _ _ _ _ _ _ _ _ _ _ _ _ _ _ _ _ _ _ _ _ _ _ _ _ _ _ _ _ _ _ _ _ _ _ _ _ _ _ _ _ _ _ _ _ _ _ _ _ _ _ _ _ _ _ _ _ _ _ _ _ _ _ _ _ _ _ _ _ _ _ _ _ _ _ _ _ _ _ _ _ _ _ _ _ _ _ _ _ _ _ _ _ _ _ _ _ _ _ _ _ _ _ _ _ _ _ _ _ _ _ _ _ _ _ _ _ _ _
end Go.Proofs.Ytbkmnboicihchaa
namespace Go.Proofs.Ytbkmnboicihchaa
set_option maxRecDepth 100000
set_option linter.unusedSimpArgs false
set_option linter.unusedVariables false
open Go.RowKit Go.ChangeShapes Go.WideShapes Go.ChangeAt
theorem open_three {H : Type} {enc : TypeId × Value → H} {w : World} {base : Nat} {v : Value} {d : DataW H} {p : List MemPlace} (hv : Value.okWide Try.prog w .any base 57 v) (h : DataW.Trod enc Try.prog w 0 (fun _ => true) true 57 v d p) :
   ∃ x0 x1 x2 : Cl,v = .agg (x0.vals ++ (x1.vals ++ x2.vals)).toArray ∧ x0.okk ∧ x1.okk ∧ x2.okk:=by
 have hu : Try.prog.underlying 57 = some (.array 3 33):=by kernel_rfl
 obtain ⟨cs,rfl,hsz⟩ : ∃ cs,v = .agg cs ∧ cs.size = Try.prog.cellsOf 57:=by
   unfold Value.okWide at hv
   rw [hu] at hv
   obtain ⟨cs,h1,h2,-⟩:=hv
   exact ⟨cs,h1,h2⟩
 obtain ⟨fuel,hf⟩:=h
 obtain ⟨xs,m,rfl,-,hl,hxs,hg⟩:=DataW.trod_array hu hf
 have hc : Try.prog.cellsOf 57 = 12:=by kernel_rfl
 have h4 : Try.prog.cellsOf 33 = 4:=by kernel_rfl
 rw [hc] at hsz
 have key : ∀ i,i < 3 → ∃ a : Ad,(cs.toList.drop (i * 4)).take 4 = a.vals ∧ a.ok:=fun i hi => by
   have h2:=hg i hi
   rw [h4,List.getElem?_eq_getElem (by omega : i < xs.length)] at h2
   exact open_ad h2
 obtain ⟨a,ha,k0⟩:=key 0 (by omega)
 obtain ⟨b,hb,k1⟩:=key 1 (by omega)
 obtain ⟨c,hc',k2⟩:=key 2 (by omega)
 refine ⟨⟨a.row,a.col⟩,⟨b.row,b.col⟩,⟨c.row,c.col⟩,?_,⟨⟨k0.1,k0.2.1⟩,⟨k0.2.2.1,k0.2.2.2⟩⟩,⟨⟨k1.1,k1.2.1⟩,⟨k1.2.2.1,k1.2.2.2⟩⟩,⟨⟨k2.1,k2.2.1⟩,⟨k2.2.2.1,k2.2.2.2⟩⟩⟩
 have hcs : cs.toList = a.vals ++ (b.vals ++ c.vals):=by
   rw [← ha,← hb,← hc']
   exact list_take3 (by simpa using hsz)
 have : cs = (a.vals ++ (b.vals ++ c.vals)).toArray:=by rw [← hcs,Array.toArray_toList]
 rw [this]
 rfl
end Go.Proofs.Ytbkmnboicihchaa
