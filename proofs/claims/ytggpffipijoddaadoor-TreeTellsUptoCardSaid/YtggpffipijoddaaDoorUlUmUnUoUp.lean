/- TreeTells: what comes behind the range over all nodes. TreeTells: the region that makes the two iterators. TreeTells: the region of six calls. TreeTells: from the two iterators on. TreeTells: the walk. -/
import Derived.Test.YtggpffipijoddaaDoorUhUiUjUk
import Derived.Test.YtggpffipijoddaaDoorFi8QbFkDpFl
import Derived.Test.YtggpffipijoddaaDoorSrSqSt
namespace Go.Proofs.YtggpffipijoddaaDoor
open Go Go.RowKit Go.Shelf
attribute [local go_sem] Oper.semAt_some

/-- a row of texts that is owned, as a slice. -/
theorem own_texts {W : World} {base : Nat} {v : Value} {nm : List ByteArray} (how : W.ownsRow base 9 1 v nm.length (nm.map Value.string)) : ∃ (Aa : Option Addr) (cap : Nat), v = .slice Aa nm.length cap ∧ ∀ i (hi : i < nm.length), ∃ g, Aa = some ⟨g, 0, none⟩ ∧ W.cell? ⟨g, i, none⟩ = some (.string nm[i]) := by
  rcases how.2 with ⟨rfl, h3⟩ | ⟨g, cap, cur, rfl, h3, h4, h5, h6, -⟩
  · exact ⟨none, 0, by rw [h3], fun i hi => by omega⟩
  · refine ⟨_, cap, rfl, fun i hi => ⟨g, rfl, ?_⟩⟩
    have := how.cellAt i (by omega)
    rw [this]; simp [hi]
theorem RI.toRK {B0 b0 p3 pk pw pn : Nat} {w W W' : World} {N : Array Value} {t : Tr} {ds : List Deferred} {ys : List Yt} (h : RI B0 b0 p3 pk pw pn w N t.nodes ds ys W) (hys : ys.map (·.1) = t.nodes) (hc : Ch (fun j => j = pk) W W') (hkw : pk < pw) (hkn : pk < pn) (hk : Boxed W' pk 3 (.int .i64 0)) : RK B0 b0 p3 pk pw pn w N t.nodes (areasT t) (namesL (t.nodes.map (·.d))) ds [] W' := by
  have e1 : areasY ys = areasT t := by unfold areasY areasT; rw [hys]
  have e2 : namesY ys = namesL (t.nodes.map (·.d)) := by unfold namesY; rw [← hys, List.map_map]; rfl
  have hw := h.want
  have hn := h.names
  rw [e1] at hw
  rw [e2] at hn
  exact ⟨h.tb.ch hc (fun j e => by omega), hk, hw.ch hc (by omega) (fun j cs e _ _ => by omega), hn.ch hc (by omega) (fun j cs e _ _ => by omega), List.nil_prefix, h.marks.keep (fun k hk hd => by
    by_cases e : k = pk
    · omega
    · exact (hc.same k (Array.getElem?_eq_some_iff.1 hd).1 e).trans hd), Nat.lt_of_lt_of_le h.lt hc.size⟩

set_option maxRecDepth 100000 in
set_option maxHeartbeats 8000000 in
theorem tells_tail (u0 u4 u9 u10 u11 u12 u13 u14 u15 u16 u17 u18 u19 u20 u21 u22 u23 u24 u25 u26 u27 u28 u29 u30 u31 u32 u33 u34 u35 u36 u37 u38 u39 u40 u41 u42 u43 u44 u45 u46 u47 u48 u49 u50 u51 u52 u53 u54 u55 u56 u57 u58 u59 u60 u61 u62 u63 u64 u65 u66 u67 u68 u69 u70 u71 u72 u73 u74 u75 u76 u77 u78 u79 u80 u81 u82 u83 u84 u85 u86 u87 u88 u89 u90 u91 u92 u93 u94 u95 u96 u97 u98 u99 u100 u101 u102 u103 u104 u105 u106 u107 u108 u109 u110 u111 u112 u113 u114 u115 u116 u117 u118 u119 u120 u121 u122 u123 u124 u125 u126 u127 u128 u129 u130 u131 u132 u133 u134 u135 u136 u137 u138 u139 u140 u141 u142 u143 u144 u145 u146 u147 u148 u149 u150 u151 u152 u153 u154 u155 u156 u157 u158 u159 u160 u161 u162 u163 u164 : Value) (B0 b0 p3 pk pw pn r c al : Nat) (w W : World) (N : Array Value) (t : Tr) (A : Option Addr) (ds : List Deferred) (ys : List Yt) (hri : RI B0 b0 p3 pk pw pn w N t.nodes ds ys W) (hys : ys.map (·.1) = t.nodes) (hkw : pk < pw) (hwn : pw < pn) (hrk : r < pk) (hBr : B0 ≤ r) (hr : W.heap[r]? = some (.cells N 34)) (hal : al = t.l.length) (hN : N = nodeA t.d A al c) (hd : t.d.ok) (hs : SlAt w B0 A c t.l) (hz : t.size ≤ 1000) (Q : Exit → Act → World → Prop)
    (hQ : ∀ (u0 u1 u3 u4 u5 u6 u7 u8 u9 u10 u11 u12 u13 u14 u15 u16 u17 u18 u19 u20 u21 u22 u23 u24 u25 u26 u27 u28 u29 u30 u31 u32 u33 u34 u35 u36 u37 u38 u39 u40 u41 u42 u43 u44 u45 u46 u47 u48 u49 u50 u51 u52 u53 u54 u55 u56 u57 u58 u59 u60 u61 u62 u63 u64 u65 u66 u67 u68 u69 u70 u71 u72 u73 u74 u75 u76 u77 u78 u79 u80 u81 u82 u83 u84 u85 u86 u87 u88 u89 u90 u91 u92 u93 u94 u95 u96 u97 u98 u99 u100 u101 u102 u103 u104 u105 u106 u107 u108 u109 u110 u111 u112 u113 u114 u115 u116 u117 u118 u119 u120 u121 u122 u123 u124 u125 u126 u127 u128 u129 u130 u131 u132 u133 u134 u135 u136 u137 u138 u139 u140 u141 u142 u143 u144 u145 u146 u147 u148 u149 u150 u151 u152 u153 u154 u155 u156 u157 u158 u159 u160 u161 u162 u163 u164 : Value) (ds' : List Deferred) (W' : World), Below B0 w W' → Boxed W' (b0 + 1) 4 (.bool true) → Marks (pn + 1) ds' W' → Q .ret ⟨#[u0, u1, .pointer (some ⟨b0 + 1, 0, none⟩), u3, u4, u5, u6, u7, u8, u9, u10, u11, u12, u13, u14, u15, u16, u17, u18, u19, u20, u21, u22, u23, u24, u25, u26, u27, u28, u29, u30, u31, u32, u33, u34, u35, u36, u37, u38, u39, u40, u41, u42, u43, u44, u45, u46, u47, u48, u49, u50, u51, u52, u53, u54, u55, u56, u57, u58, u59, u60, u61, u62, u63, u64, u65, u66, u67, u68, u69, u70, u71, u72, u73, u74, u75, u76, u77, u78, u79, u80, u81, u82, u83, u84, u85, u86, u87, u88, u89, u90, u91, u92, u93, u94, u95, u96, u97, u98, u99, u100, u101, u102, u103, u104, u105, u106, u107, u108, u109, u110, u111, u112, u113, u114, u115, u116, u117, u118, u119, u120, u121, u122, u123, u124, u125, u126, u127, u128, u129, u130, u131, u132, u133, u134, u135, u136, u137, u138, u139, u140, u141, u142, u143, u144, u145, u146, u147, u148, u149, u150, u151, u152, u153, u154, u155, u156, u157, u158, u159, u160, u161, u162, u163, u164], ds'⟩ W') :
    (fromRegion 29 tellsC).wp Tryd.prog Q ⟨#[u0, .pointer (some ⟨b0, 0, none⟩), .pointer (some ⟨b0 + 1, 0, none⟩), .pointer (some ⟨p3, 0, none⟩), u4, .func (.func 34) #[] #[.pointer (some ⟨r, 0, none⟩)], .pointer (some ⟨pk, 0, none⟩), .pointer (some ⟨pw, 0, none⟩), .pointer (some ⟨pn, 0, none⟩), u9, u10, u11, u12, u13, u14, u15, u16, u17, u18, u19, u20, u21, u22, u23, u24, u25, u26, u27, u28, u29, u30, u31, u32, u33, u34, u35, u36, u37, u38, u39, u40, u41, u42, u43, u44, u45, u46, u47, u48, u49, u50, u51, u52, u53, u54, u55, u56, u57, u58, u59, u60, u61, u62, u63, u64, u65, u66, u67, u68, u69, u70, u71, u72, u73, u74, u75, u76, u77, u78, u79, u80, u81, u82, u83, u84, u85, u86, u87, u88, u89, u90, u91, u92, u93, u94, u95, u96, u97, u98, u99, u100, u101, u102, u103, u104, u105, u106, u107, u108, u109, u110, u111, u112, u113, u114, u115, u116, u117, u118, u119, u120, u121, u122, u123, u124, u125, u126, u127, u128, u129, u130, u131, u132, u133, u134, u135, u136, u137, u138, u139, u140, u141, u142, u143, u144, u145, u146, u147, u148, u149, u150, u151, u152, u153, u154, u155, u156, u157, u158, u159, u160, u161, u162, u163, u164], ds⟩ W := by
  dsimp only
  dsimp only at hQ
  have hlow := hri.tb.low
  have hpl0 := hri.lt
  have hNM : ∀ wx, Below B0 w wx → B0 ≤ wx.heap.size → Calls Tryd.prog 25 #[.agg N] wx fun e w' => ∃ v, e = .returned v ∧ Below wx.heap.size wx w' ∧ w'.ownsRow (wx.heap.size + 5) 9 1 v (namesL (t.nodes.map (·.d))).length ((namesL (t.nodes.map (·.d))).map Value.string) := fun wx hx hl => by
    have := names_c wx B0 hl t A c hd (hs.below hx) (by omega)
    rw [nodeV, ← hal, ← hN] at this; exact this
  have hNs : N.size = 22 := by rw [hN]; rfl
  have hinf := infN
  rw [← hNs] at hinf
  have hNn : N = nodeA t.d A t.l.length c := by rw [hN, hal]
  have hlz : (areasT t).length ≤ 1000 := by have := areasT_le t; omega
  have hnz : (namesL (t.nodes.map (·.d))).length ≤ 1000 := by have h1 := namesL_len (t.nodes.map (·.d)); have h2 := nodes_len t; rw [List.length_map] at h1; omega
  have hyl : ys.length = t.nodes.length := by rw [← hys, List.length_map]
  have hyz : t.nodes.length ≤ 1000 := by have h2 := nodes_len t; omega
  obtain ⟨Al, cl, hlb, -⟩ := hri.tb.lst
  have hk0 := hri.cnt
  rw [hyl] at hk0
  obtain ⟨n, hn⟩ : ∃ n, n = t.nodes.length := ⟨_, rfl⟩
  rw [← hn] at hk0 hlb hyz
  have hkc := hk0.cell
  have hkf := hk0.frozen
  have hlc := hlb.cell
  have hn63 : n ≤ 9223372036854775807 := by omega
  have HNM := Lib.hid hNM
  have HQ := Lib.hid hQ
  have HRI := Lib.hid hri
  have HIN := Lib.hid hinf
  have HNN := Lib.hid hNn
  have HD := Lib.hid hd
  have HS := Lib.hid hs
  have HZ := Lib.hid hz
  have HLZ := Lib.hid hlz
  have HNZ := Lib.hid hnz
  have HYS := Lib.hid hys
  have HLOW := Lib.hid hlow
  have HR := Lib.hid hr
  have HK0 := Lib.hid hk0
  have HPL := Lib.hid hpl0
  have HX := Lib.hid (And.intro hkw (And.intro hwn (And.intro hrk hBr)))
  clear hNM hQ hri hinf hNn hd hs hz hNs hN hal hlz hnz hyl hyz hlb hk0 hn hys hlow hr hpl0 hkw hwn hrk hBr
  conv => arg 2; whnf
  go_wp2
  obtain ⟨hkw, hwn, hrk, hBr⟩ := HX.out
  have hcs : Ch (fun j => j = pk) W (W.setCell ⟨pk, 0, none⟩ (.int .i64 0)) := .setCell W pk _ rfl
  have hrk1 := HRI.out.toRK HYS.out hcs hkw (by omega) (HK0.out.set _)
  have hr1 : (W.setCell ⟨pk, 0, none⟩ (.int .i64 0)).heap[r]? = some (.cells (nodeA t.d A t.l.length c) 34) := by
    rw [← HNN.out]; exact (hcs.same r (Array.getElem?_eq_some_iff.1 HR.out).1 (by omega)).trans HR.out
  refine tells_range2 _ _ _ _ _ _ _ _ _ _ _ _ _ _ _ _ _ _ _ _ _ _ _ _ _ _ _ _ _ _ _ _ _ _ _ _ _ _ _ _ _ _ _ _ _ _ _ _ _ _ _ _ _ _ _ _ _ _ _ _ _ _ _ _ _ _ _ _ _ _ _ _ _ _ _ _ _ _ _ _ _ _ _ _ _ _ _ _ _ _ _ _ _ _ _ _ _ _ _ _ _ _ _ _ _ _ _ _ _ _ _ _ _ _ _ _ _ _ _ _ _ _ _ _ _ _ _ _ _ _ _ _ _ _ _ _ _ _ _ _ _ _ _ _ _ _ _ _ _ _ _ _ _ _ _ _ _ _ _ _ _ B0 b0 p3 pk pw pn r c w _ N t.nodes (namesL (t.nodes.map (·.d))) t A ds hrk1 hkw hwn hrk hBr hr1 HD.out HS.out HZ.out _ ?_
  rintro D W' hrk2 -
  dsimp only
  clear hrk1 hr1 hcs hkc hkf hlc HK0 HR HRI HYS
  have hnd := hrk2.tb.node
  have HRK := Lib.hid hrk2
  clear hrk2
  go_wp2_with (first | (refine wpList_row rfl 34 _ rfl b0 rfl 34 N (0, 0) _ hnd undN rfl HIN.out ?_) | fail)
  clear hnd
  refine (HNM.out W' HRK.out.tb.below (by have h1 := HRK.out.lt; have h2 := HLOW.out; have h3 := HX.out; omega)).mono ?_
  rintro e w3 ⟨vg, rfl, hb3, hog⟩
  have hrk3 := HRK.out.below hb3
  obtain ⟨Ag, capg, rfl, hrowg⟩ := own_texts hog
  obtain ⟨vn, hnb, hnr⟩ := hrk3.names
  obtain ⟨Aa, cap, rfl, hrow⟩ := own_texts hnr
  obtain ⟨Aw, capw, hwb, -⟩ := hrk3.want.slice
  have hk3 := hrk3.cnt
  have HRK3 := Lib.hid hrk3
  have hlm := HLZ.out
  have hnm := HNZ.out
  obtain ⟨ln, hln⟩ : ∃ ln, ln = (areasT t).length := ⟨_, rfl⟩
  obtain ⟨nl, hnl⟩ : ∃ nl, nl = (namesL (t.nodes.map (·.d))).length := ⟨_, rfl⟩
  rw [← hln] at hk3 hwb hlm
  rw [← hnl] at hnb hnm ⊢
  have hl63 : ln ≤ 9223372036854775807 := by omega
  have hm63 : nl ≤ 9223372036854775807 := by omega
  have hkc := hk3.cell
  have hwc := hwb.cell
  have hnc := hnb.cell
  have HROW := Lib.hid hrow
  have HROWG := Lib.hid hrowg
  have HNL := Lib.hid hnl
  clear hrow hrowg hnl hln hk3 hwb hnb hnr hog hb3 hrk3 HRK
  go_wp2
  refine gots_loop _ _ _ _ _ _ _ _ _ _ _ _ _ _ _ _ _ _ _ _ _ _ _ _ _ _ _ _ _ _ _ _ _ _ _ _ _ _ _ _ _ _ _ _ _ _ _ _ _ _ _ _ _ _ _ _ _ _ _ _ _ _ _ _ _ _ _ _ _ _ _ _ _ _ _ _ _ _ _ _ _ _ _ _ _ _ _ _ _ _ _ _ _ _ _ _ _ _ _ _ _ _ _ _ _ _ _ _ _ _ _ _ _ _ _ _ _ _ _ _ _ _ _ _ _ _ _ _ _ _ _ _ _ _ _ _ _ _ _ _ _ _ _ _ _ _ _ _ _ _ _ _ _ _ _ _ _ _ _ _ _ b0 pn nl cap capg Aa Ag (namesL (t.nodes.map (·.d))) (markOf D :: ds) w3 HNL.out.symm hnc HROW.out HROWG.out (by omega) _ ?_
  intro x0 x1 x3 x4 x5 x6 x7 x9 x10 x11 x12 x15 x16 x17 x18 x19 x20 x21 x22 x23 x24 x25 x26 x27 x28 x29 x30 x31 x32 x33 x34 x35 x36 x37 x38 x39 x40 x41 x42 x43 x44 x45 x46 x47 x48 x49 x50 x51 x52 x53 x54 x55 x56 x57 x58 x59 x60 x61 x62 x63 x64 x65 x66 x67 x68 x69 x70 x71 x72 x73 x74 x75 x76 x77 x78 x79 x80 x81 x82 x83 x84 x85 x86 x87 x88 x89 x90 x91 x92 x93 x94 x95 x96 x97 x98 x99 x100 x101 x102 x103 x104 x105 x106 x107 x108 x109 x110 x111 x112 x113 x114 x115 x116 x117 x118 x119 x120 x121 x122 x123 x124 x125 x126 x127 x128 x129 x130 x131 x132 x133 x134 x135 x136 x137 x138 x139 x140 x141 x142 x143 x144 x145 x146 x147 x148 x149 x150 x151 x152 x153 x154 x155 x156 x157 x158 x159 x160 x161 x162 x163 x164 W4 hc4
  dsimp only
  obtain ⟨u, hu⟩ := HRK3.out.tb.res
  have hu4 := hc4.boxed hu (fun h => h)
  have huc := hu4.cell
  have huf := hu4.frozen
  have hb4 : Below B0 w W4 := hc4.put HRK3.out.tb.below (by have h1 := HRK3.out.lt; have h2 := HLOW.out; have h3 := HX.out; omega) (fun _ h => h.elim)
  have hm4 : Marks (pn + 1) (markOf D :: ds) W4 := HRK3.out.marks.keep (fun k _ h => (hc4.same k (Array.getElem?_eq_some_iff.1 h).1 (fun h => h)).trans h)
  have HU := Lib.hid hu4
  have HB4 := Lib.hid hb4
  have HM := Lib.hid hm4
  clear hc4 hu hu4 hb4 hm4 hkc hwc hnc HROW HROWG HNL HRK3 HNM
  go_wp2
  exact HQ.out _ _ _ _ _ _ _ _ _ _ _ _ _ _ _ _ _ _ _ _ _ _ _ _ _ _ _ _ _ _ _ _ _ _ _ _ _ _ _ _ _ _ _ _ _ _ _ _ _ _ _ _ _ _ _ _ _ _ _ _ _ _ _ _ _ _ _ _ _ _ _ _ _ _ _ _ _ _ _ _ _ _ _ _ _ _ _ _ _ _ _ _ _ _ _ _ _ _ _ _ _ _ _ _ _ _ _ _ _ _ _ _ _ _ _ _ _ _ _ _ _ _ _ _ _ _ _ _ _ _ _ _ _ _ _ _ _ _ _ _ _ _ _ _ _ _ _ _ _ _ _ _ _ _ _ _ _ _ _ _ _ _ _ _ _ _ (HB4.out.setCell (by have h1 := HLOW.out; simp only; omega) _) (HU.out.set _) (HM.out.setCell _ _ (fun o ho => by rw [show W4.heap[b0 + 1]? = _ from HU.out] at ho; cases ho; rfl))
end Go.Proofs.YtggpffipijoddaaDoor
namespace Go.Proofs.YtggpffipijoddaaDoor
open Go Go.RowKit Go.Shelf
attribute [local go_sem] Oper.semAt_some

theorem all_c (N : Array Value) (w : World) : Calls Tryd.prog 24 #[.agg N] w fun e w' => e = .returned (.func (.func 39) #[] #[.pointer (some ⟨w.heap.size, 0, none⟩)]) ∧ w' = w.alloc (.cells N 34) := by
  go_enter Tryd.func24, Tryd.ntmps24
  go_wp2
  go_ret
  exact ⟨rfl, rfl⟩
theorem step_row {P : Program} {ops : Array Oper} {op : Oper} {a : Act} {w : World} {K : Act → World → Prop} {Q : Exit → Act → World → Prop} {E : Prop} (hw : Region.wanted op (yielded ops a.tmps) = true) (ty : TypeId) (x : Operand) (ho : op.op = .load ty x)
    (g : Nat) (hx : a.eval x = .pointer (some ⟨g, 0, none⟩)) (t : TypeId) (cs : Array Value) (fr : Nat × Nat) (d : TypeDesc) (hg : w.heap[g]? = some (.cells cs t fr))
    (hu : P.underlying ty = some d) (hd : (match d with | .struct _ | .array _ _ => true | _ => false) = true) (hi : (P.info? ty).map (·.size) = some cs.size)
    (h : K (a.put op.dst (.agg cs)) w) : if Region.wanted op (yielded ops a.tmps) = true then op.wp P a w K Q else E := by
  rw [if_pos hw]
  exact wp_load_row ty x ho g hx t cs fr d hg hu hd hi h

set_option maxRecDepth 100000 in
set_option maxHeartbeats 4000000 in
theorem tells8 (u0 u2 u3 u4 u5 u6 u7 u8 u9 u10 u11 u12 u13 u14 u15 u16 u17 u18 u19 u20 u21 u22 u23 u24 u25 u26 u27 u28 u29 u30 u31 u32 u33 u34 u35 u36 u37 u38 u39 u40 u41 u42 u43 u44 u45 u46 u47 u48 u49 u50 u51 u52 u53 u54 u55 u56 u57 u58 u59 u60 u61 u62 u63 u64 u65 u66 u67 u68 u69 u70 u71 u72 u73 u74 u75 u76 u77 u78 u79 u80 u81 u82 u83 u84 u85 u86 u87 u88 u89 u90 u91 u92 u93 u94 u95 u96 u97 u98 u99 u100 u101 u102 u103 u104 u105 u106 u107 u108 u109 u110 u111 u112 u113 u114 u115 u116 u117 u118 u119 u120 u121 u122 u123 u124 u125 u126 u127 u128 u129 u130 u131 u132 u133 u134 u135 u136 u137 u138 u139 u140 u141 u142 u143 u144 u145 u146 u147 u148 u149 u150 u151 u152 u153 u154 u155 u156 u157 u158 u159 u160 u161 u162 u163 u164 : Value) (b0 : Nat) (W : World) (N : Array Value) (hNs : N.size = 22) (ds : List Deferred) (hn : W.heap[b0]? = some (.cells N 34)) (Q : Exit → Act → World → Prop) (r : Nat) (hr : W.heap.size = r)
    (hQ : Q .normal ⟨#[u0, .pointer (some ⟨b0, 0, none⟩), u2, u3, .func (.func 39) #[] #[.pointer (some ⟨r, 0, none⟩)], .func (.func 34) #[] #[.pointer (some ⟨(r + 1), 0, none⟩)], u6, u7, u8, u9, u10, u11, u12, u13, u14, u15, u16, u17, u18, u19, u20, u21, u22, u23, u24, u25, u26, u27, u28, u29, u30, u31, u32, u33, u34, u35, u36, u37, u38, u39, u40, u41, u42, u43, u44, u45, .agg N, .func (.func 39) #[] #[.pointer (some ⟨r, 0, none⟩)], .agg N, .func (.func 34) #[] #[.pointer (some ⟨(r + 1), 0, none⟩)], u50, u51, u52, u53, u54, u55, u56, u57, u58, u59, u60, u61, u62, u63, u64, u65, u66, u67, u68, u69, u70, u71, u72, u73, u74, u75, u76, u77, u78, u79, u80, u81, u82, u83, u84, u85, u86, u87, u88, u89, u90, u91, u92, u93, u94, u95, u96, u97, u98, u99, u100, u101, u102, u103, u104, u105, u106, u107, u108, u109, u110, u111, u112, u113, u114, u115, u116, u117, u118, u119, u120, u121, u122, u123, u124, u125, u126, u127, u128, u129, u130, u131, u132, u133, u134, u135, u136, u137, u138, u139, u140, u141, u142, u143, u144, u145, u146, u147, u148, u149, u150, u151, u152, u153, u154, u155, u156, u157, u158, u159, u160, u161, u162, u163, u164], ds⟩ ((W.drew.alloc (.cells N 34)).alloc (.cells N 34))) :
    (fstC (fromRegion 8 tellsC)).wp Tryd.prog Q ⟨#[u0, .pointer (some ⟨b0, 0, none⟩), u2, u3, u4, u5, u6, u7, u8, u9, u10, u11, u12, u13, u14, u15, u16, u17, u18, u19, u20, u21, u22, u23, u24, u25, u26, u27, u28, u29, u30, u31, u32, u33, u34, u35, u36, u37, u38, u39, u40, u41, u42, u43, u44, u45, u46, u47, u48, u49, u50, u51, u52, u53, u54, u55, u56, u57, u58, u59, u60, u61, u62, u63, u64, u65, u66, u67, u68, u69, u70, u71, u72, u73, u74, u75, u76, u77, u78, u79, u80, u81, u82, u83, u84, u85, u86, u87, u88, u89, u90, u91, u92, u93, u94, u95, u96, u97, u98, u99, u100, u101, u102, u103, u104, u105, u106, u107, u108, u109, u110, u111, u112, u113, u114, u115, u116, u117, u118, u119, u120, u121, u122, u123, u124, u125, u126, u127, u128, u129, u130, u131, u132, u133, u134, u135, u136, u137, u138, u139, u140, u141, u142, u143, u144, u145, u146, u147, u148, u149, u150, u151, u152, u153, u154, u155, u156, u157, u158, u159, u160, u161, u162, u163, u164], ds⟩ W := by
  dsimp only at hQ
  dsimp only
  conv => arg 2; whnf
  have hinf := infN
  rw [← hNs] at hinf
  have HIN := Lib.hid hinf
  clear hinf hNs
  have hl : b0 < W.heap.size := (Array.getElem?_eq_some_iff.1 hn).1
  have hn1 : (W.drew.alloc (.cells N 34)).heap[b0]? = some (.cells N 34) := (heapOld _ _ _ hl).trans hn
  have hr0 : W.drew.heap.size = r := hr
  have hr1 : (W.drew.alloc (.cells N 34)).heap.size = r + 1 := by rw [World.size_alloc]; omega
  obtain ⟨W0, hW0⟩ : ∃ W0, W0 = W.drew := ⟨_, rfl⟩
  obtain ⟨W1, hW1⟩ : ∃ W1, W1 = W.drew.alloc (.cells N 34) := ⟨_, rfl⟩
  obtain ⟨W2, hW2⟩ : ∃ W2, W2 = W1.alloc (.cells N 34) := ⟨_, rfl⟩
  have HN0 : Hid (W0.heap[b0]? = some (.cells N 34)) := Lib.hid (by rw [hW0]; exact hn)
  have HN1 : Hid (W1.heap[b0]? = some (.cells N 34)) := Lib.hid (by rw [hW1]; exact hn1)
  have HR : Hid (W0.heap.size = r) := Lib.hid (by rw [hW0]; exact hr0)
  have HR1 : Hid (W1.heap.size = r + 1) := Lib.hid (by rw [hW1]; exact hr1)
  rw [← hW1, ← hW2] at hQ
  rw [← hW0] at hW1
  have HW1 := Lib.hid hW1
  have HW2 := Lib.hid hW2
  have HQ := Lib.hid hQ
  clear hQ hn hn1 hr hr0 hr1 hl hW1 hW2
  refine wp_region_any (by kernel_rfl) ?_
  change wpAny _ _ _ _ _ _ _ (World.drew W)
  rw [← hW0]
  clear hW0
  refine wpAny_ready (rs := [0, 2]) (by kernel_rfl) (by simp) ?_
  refine AllReady.cons rfl (fun K hK => ?_) ?_
  · refine step_row rfl 34 _ rfl b0 rfl 34 N (0, 0) _ HN0.out undN rfl HIN.out ?_
    refine hK _ _ ?_
    clear hK K
    try simp only [Act.put, List.setIfInBounds_toArray]
    refine wpAny_ready (rs := [1, 2]) (by kernel_rfl) (by simp) ?_
    refine AllReady.cons rfl (fun K hK => ?_) ?_
    · go_simp
      refine (all_c N _).mono ?_
      rintro e w2 ⟨rfl, rfl⟩
      rw [← HW1.out, HR.out]
      refine hK _ _ ?_
      clear hK K
      try simp only [Act.put, List.setIfInBounds_toArray, List.set_cons_zero, List.set_cons_succ]
      refine wpAny_ready (rs := [2]) (by kernel_rfl) (by simp) ?_
      refine AllReady.cons rfl (fun K hK => ?_) ?_
      · refine step_row rfl 34 _ rfl b0 rfl 34 N (0, 0) _ HN1.out undN rfl HIN.out ?_
        refine hK _ _ ?_
        clear hK K
        try simp only [Act.put, List.setIfInBounds_toArray]
        refine wpAny_ready (rs := [3]) (by kernel_rfl) (by simp) ?_
        refine AllReady.cons rfl (fun K hK => ?_) ?_
        · go_simp
          refine (areas_c N _).mono ?_
          rintro e w2 ⟨rfl, rfl⟩
          rw [← HW2.out, HR1.out]
          refine hK _ _ ?_
          clear hK K
          try simp only [Act.put, List.setIfInBounds_toArray, List.set_cons_zero, List.set_cons_succ]
          refine wpAny_ready (rs := [4]) (by kernel_rfl) (by simp) ?_
          refine AllReady.cons rfl (fun K hK => ?_) ?_
          · go_simp
            refine hK _ _ ?_
            clear hK K
            try simp only [Act.put, List.setIfInBounds_toArray, List.set_cons_zero, List.set_cons_succ]
            refine wpAny_ready (rs := [5]) (by kernel_rfl) (by simp) ?_
            refine AllReady.cons rfl (fun K hK => ?_) ?_
            · go_simp
              refine hK _ _ ?_
              clear hK K
              try simp only [Act.put, List.setIfInBounds_toArray, List.set_cons_zero, List.set_cons_succ]
              refine wpAny_done (by kernel_rfl) ?_ _
              exact HQ.out
            exact AllReady.nil
          exact AllReady.nil
        exact AllReady.nil
      exact AllReady.nil
    refine AllReady.cons rfl (fun K hK => ?_) ?_
    · refine step_row rfl 34 _ rfl b0 rfl 34 N (0, 0) _ HN0.out undN rfl HIN.out ?_
      refine hK _ _ ?_
      clear hK K
      try simp only [Act.put]
      refine wpAny_ready (rs := [1]) (by kernel_rfl) (by simp) ?_
      refine AllReady.cons rfl (fun K hK => ?_) ?_
      · go_simp
        refine (all_c N _).mono ?_
        rintro e w2 ⟨rfl, rfl⟩
        rw [← HW1.out, HR.out]
        refine hK _ _ ?_
        clear hK K
        try simp only [Act.put, List.setIfInBounds_toArray, List.set_cons_zero, List.set_cons_succ]
        refine wpAny_ready (rs := [3]) (by kernel_rfl) (by simp) ?_
        refine AllReady.cons rfl (fun K hK => ?_) ?_
        · go_simp
          refine (areas_c N _).mono ?_
          rintro e w2 ⟨rfl, rfl⟩
          rw [← HW2.out, HR1.out]
          refine hK _ _ ?_
          clear hK K
          try simp only [Act.put, List.setIfInBounds_toArray, List.set_cons_zero, List.set_cons_succ]
          refine wpAny_ready (rs := [4]) (by kernel_rfl) (by simp) ?_
          refine AllReady.cons rfl (fun K hK => ?_) ?_
          · go_simp
            refine hK _ _ ?_
            clear hK K
            try simp only [Act.put, List.setIfInBounds_toArray, List.set_cons_zero, List.set_cons_succ]
            refine wpAny_ready (rs := [5]) (by kernel_rfl) (by simp) ?_
            refine AllReady.cons rfl (fun K hK => ?_) ?_
            · go_simp
              refine hK _ _ ?_
              clear hK K
              try simp only [Act.put, List.setIfInBounds_toArray, List.set_cons_zero, List.set_cons_succ]
              refine wpAny_done (by kernel_rfl) ?_ _
              exact HQ.out
            exact AllReady.nil
          exact AllReady.nil
        exact AllReady.nil
      exact AllReady.nil
    exact AllReady.nil
  refine AllReady.cons rfl (fun K hK => ?_) ?_
  · refine step_row rfl 34 _ rfl b0 rfl 34 N (0, 0) _ HN0.out undN rfl HIN.out ?_
    refine hK _ _ ?_
    clear hK K
    try simp only [Act.put, List.setIfInBounds_toArray]
    refine wpAny_ready (rs := [0]) (by kernel_rfl) (by simp) ?_
    refine AllReady.cons rfl (fun K hK => ?_) ?_
    · refine step_row rfl 34 _ rfl b0 rfl 34 N (0, 0) _ HN0.out undN rfl HIN.out ?_
      refine hK _ _ ?_
      clear hK K
      try simp only [Act.put]
      refine wpAny_ready (rs := [1]) (by kernel_rfl) (by simp) ?_
      refine AllReady.cons rfl (fun K hK => ?_) ?_
      · go_simp
        refine (all_c N _).mono ?_
        rintro e w2 ⟨rfl, rfl⟩
        rw [← HW1.out, HR.out]
        refine hK _ _ ?_
        clear hK K
        try simp only [Act.put, List.setIfInBounds_toArray, List.set_cons_zero, List.set_cons_succ]
        refine wpAny_ready (rs := [3]) (by kernel_rfl) (by simp) ?_
        refine AllReady.cons rfl (fun K hK => ?_) ?_
        · go_simp
          refine (areas_c N _).mono ?_
          rintro e w2 ⟨rfl, rfl⟩
          rw [← HW2.out, HR1.out]
          refine hK _ _ ?_
          clear hK K
          try simp only [Act.put, List.setIfInBounds_toArray, List.set_cons_zero, List.set_cons_succ]
          refine wpAny_ready (rs := [4]) (by kernel_rfl) (by simp) ?_
          refine AllReady.cons rfl (fun K hK => ?_) ?_
          · go_simp
            refine hK _ _ ?_
            clear hK K
            try simp only [Act.put, List.setIfInBounds_toArray, List.set_cons_zero, List.set_cons_succ]
            refine wpAny_ready (rs := [5]) (by kernel_rfl) (by simp) ?_
            refine AllReady.cons rfl (fun K hK => ?_) ?_
            · go_simp
              refine hK _ _ ?_
              clear hK K
              try simp only [Act.put, List.setIfInBounds_toArray, List.set_cons_zero, List.set_cons_succ]
              refine wpAny_done (by kernel_rfl) ?_ _
              exact HQ.out
            exact AllReady.nil
          exact AllReady.nil
        exact AllReady.nil
      exact AllReady.nil
    exact AllReady.nil
  exact AllReady.nil
end Go.Proofs.YtggpffipijoddaaDoor
namespace Go.Proofs.YtggpffipijoddaaDoor
open Go Go.RowKit Go.Shelf Go.Sort
attribute [local go_sem] Oper.semAt_some

set_option maxRecDepth 100000 in
set_option maxHeartbeats 8000000 in
theorem tells6 (u0 u4 u5 u6 u7 u8 u9 u10 u11 u12 u13 u14 u15 u16 u17 u18 u19 u20 u21 u22 u23 u24 u25 u26 u27 u28 u29 u30 u31 u32 u33 u34 u35 u36 u37 u38 u39 u40 u41 u42 u43 u44 u45 u46 u47 u48 u49 u50 u51 u52 u53 u54 u55 u56 u57 u58 u59 u60 u61 u62 u63 u64 u65 u66 u67 u68 u69 u70 u71 u72 u73 u74 u75 u76 u77 u78 u79 u80 u81 u82 u83 u84 u85 u86 u87 u88 u89 u90 u91 u92 u93 u94 u95 u96 u97 u98 u99 u100 u101 u102 u103 u104 u105 u106 u107 u108 u109 u110 u111 u112 u113 u114 u115 u116 u117 u118 u119 u120 u121 u122 u123 u124 u125 u126 u127 u128 u129 u130 u131 u132 u133 u134 u135 u136 u137 u138 u139 u140 u141 u142 u143 u144 u145 u146 u147 u148 u149 u150 u151 u152 u153 u154 u155 u156 u157 u158 u159 u160 u161 u162 u163 u164 : Value) (b0 p3 n dp cap : Nat) (ck : Int) (Al : Option Addr) (W : World) (N : Array Value) (hNs : N.size = 22) (ds : List Deferred) (hn : W.heap[b0]? = some (.cells N 34)) (hl : W.cell? ⟨p3, 0, none⟩ = some (.slice Al n cap)) (hn63 : n ≤ 1000000) (hSZ : ∀ wx, Below W.heap.size W wx → Calls Tryd.prog 12 #[.agg N] wx fun e w' => e = .returned (.int .i64 n) ∧ Below wx.heap.size wx w') (hDP : ∀ wx, Below W.heap.size W wx → Calls Tryd.prog 13 #[.agg N] wx fun e w' => e = .returned (.int .i64 dp) ∧ Below wx.heap.size wx w') (hRD : ∀ wx, Below W.heap.size W wx → Calls Tryd.prog 22 #[.agg N] wx fun e w' => e = .returned (.int .i64 dp) ∧ Below wx.heap.size wx w') (hCK : ∀ wx, Below W.heap.size W wx → Calls Tryd.prog 10 #[.agg N] wx fun e w' => e = .returned (.int .i64 ck) ∧ Below wx.heap.size wx w') (hRC : ∀ wx, Below W.heap.size W wx → Calls Tryd.prog 23 #[.agg N] wx fun e w' => e = .returned (.int .i64 ck) ∧ Below wx.heap.size wx w') (hSM : ∀ wx, Below W.heap.size W wx → Calls Tryd.prog 14 #[.agg N, .agg N] wx fun e w' => e = .returned (.bool true) ∧ Below wx.heap.size wx w') (Q : Exit → Act → World → Prop)
    (hQ : ∀ (u0 u4 u5 u6 u7 u8 u9 u10 u11 u12 u13 u14 u15 u16 u17 u18 u19 u20 u21 u22 u23 u24 u25 u26 u27 u28 u29 u30 u31 u32 u33 u34 u35 u36 u37 u38 u39 u40 u41 u42 u43 u44 u46 u47 u48 u49 u50 u51 u52 u53 u54 u55 u56 u57 u58 u59 u60 u61 u62 u63 u64 u65 u66 u67 u68 u69 u70 u71 u72 u73 u74 u75 u76 u77 u78 u79 u80 u81 u82 u83 u84 u85 u86 u87 u88 u89 u90 u91 u92 u93 u94 u95 u96 u97 u98 u99 u100 u101 u102 u103 u104 u105 u106 u107 u108 u109 u110 u111 u112 u113 u114 u115 u116 u117 u118 u119 u120 u121 u122 u123 u124 u125 u126 u127 u128 u129 u130 u131 u132 u133 u134 u135 u136 u137 u138 u139 u140 u141 u142 u143 u144 u145 u146 u147 u148 u149 u150 u151 u152 u153 u154 u155 u156 u157 u158 u159 u160 u161 u162 u163 u164 : Value) (W' : World), Below W.heap.size W W' → Q .normal ⟨#[u0, .pointer (some ⟨b0, 0, none⟩), .pointer (some ⟨b0 + 1, 0, none⟩), .pointer (some ⟨p3, 0, none⟩), u4, u5, u6, u7, u8, u9, u10, u11, u12, u13, u14, u15, u16, u17, u18, u19, u20, u21, u22, u23, u24, u25, u26, u27, u28, u29, u30, u31, u32, u33, u34, u35, u36, u37, u38, u39, u40, u41, u42, u43, u44, .bool false, u46, u47, u48, u49, u50, u51, u52, u53, u54, u55, u56, u57, u58, u59, u60, u61, u62, u63, u64, u65, u66, u67, u68, u69, u70, u71, u72, u73, u74, u75, u76, u77, u78, u79, u80, u81, u82, u83, u84, u85, u86, u87, u88, u89, u90, u91, u92, u93, u94, u95, u96, u97, u98, u99, u100, u101, u102, u103, u104, u105, u106, u107, u108, u109, u110, u111, u112, u113, u114, u115, u116, u117, u118, u119, u120, u121, u122, u123, u124, u125, u126, u127, u128, u129, u130, u131, u132, u133, u134, u135, u136, u137, u138, u139, u140, u141, u142, u143, u144, u145, u146, u147, u148, u149, u150, u151, u152, u153, u154, u155, u156, u157, u158, u159, u160, u161, u162, u163, u164], ds⟩ W') :
    (fstC (fstC (fromRegion 6 tellsC))).wp Tryd.prog Q ⟨#[u0, .pointer (some ⟨b0, 0, none⟩), .pointer (some ⟨b0 + 1, 0, none⟩), .pointer (some ⟨p3, 0, none⟩), u4, u5, u6, u7, u8, u9, u10, u11, u12, u13, u14, u15, u16, u17, u18, u19, u20, u21, u22, u23, u24, u25, u26, u27, u28, u29, u30, u31, u32, u33, u34, u35, u36, u37, u38, u39, u40, u41, u42, u43, u44, u45, u46, u47, u48, u49, u50, u51, u52, u53, u54, u55, u56, u57, u58, u59, u60, u61, u62, u63, u64, u65, u66, u67, u68, u69, u70, u71, u72, u73, u74, u75, u76, u77, u78, u79, u80, u81, u82, u83, u84, u85, u86, u87, u88, u89, u90, u91, u92, u93, u94, u95, u96, u97, u98, u99, u100, u101, u102, u103, u104, u105, u106, u107, u108, u109, u110, u111, u112, u113, u114, u115, u116, u117, u118, u119, u120, u121, u122, u123, u124, u125, u126, u127, u128, u129, u130, u131, u132, u133, u134, u135, u136, u137, u138, u139, u140, u141, u142, u143, u144, u145, u146, u147, u148, u149, u150, u151, u152, u153, u154, u155, u156, u157, u158, u159, u160, u161, u162, u163, u164], ds⟩ W := by
  dsimp only at hQ
  dsimp only
  conv => arg 2; whnf
  have hinf := infN
  rw [← hNs] at hinf
  have HIN := Lib.hid hinf
  have hq : ∀ d os, (grow (redrawn W d) os).cell? ⟨p3, 0, none⟩ = some (.slice Al n cap) := fun d os => cell_regrown hl d os
  have C1 : Hid (∀ d os, Calls Tryd.prog 12 #[.agg N] (grow (redrawn W d) os) fun e w'' => e = .returned (.int .i64 n) ∧ ∃ p : Regrown, w'' = grow (redrawn W p.d) p.os) := Lib.hid fun d os => Calls.regrown_of (hSZ _ (below_regrown W d os))
  have C2 : Hid (∀ d os, Calls Tryd.prog 13 #[.agg N] (grow (redrawn W d) os) fun e w'' => e = .returned (.int .i64 dp) ∧ ∃ p : Regrown, w'' = grow (redrawn W p.d) p.os) := Lib.hid fun d os => Calls.regrown_of (hDP _ (below_regrown W d os))
  have C3 : Hid (∀ d os, Calls Tryd.prog 22 #[.agg N] (grow (redrawn W d) os) fun e w'' => e = .returned (.int .i64 dp) ∧ ∃ p : Regrown, w'' = grow (redrawn W p.d) p.os) := Lib.hid fun d os => Calls.regrown_of (hRD _ (below_regrown W d os))
  have C4 : Hid (∀ d os, Calls Tryd.prog 10 #[.agg N] (grow (redrawn W d) os) fun e w'' => e = .returned (.int .i64 ck) ∧ ∃ p : Regrown, w'' = grow (redrawn W p.d) p.os) := Lib.hid fun d os => Calls.regrown_of (hCK _ (below_regrown W d os))
  have C5 : Hid (∀ d os, Calls Tryd.prog 23 #[.agg N] (grow (redrawn W d) os) fun e w'' => e = .returned (.int .i64 ck) ∧ ∃ p : Regrown, w'' = grow (redrawn W p.d) p.os) := Lib.hid fun d os => Calls.regrown_of (hRC _ (below_regrown W d os))
  have C6 : Hid (∀ d os, Calls Tryd.prog 14 #[.agg N, .agg N] (grow (redrawn W d) os) fun e w'' => e = .returned (.bool true) ∧ ∃ p : Regrown, w'' = grow (redrawn W p.d) p.os) := Lib.hid fun d os => Calls.regrown_of (hSM _ (below_regrown W d os))
  have HQ := Lib.hid hQ
  have hn63' : n ≤ 9223372036854775807 := by omega
  clear hSZ hDP hRD hCK hRC hSM hQ hinf hNs hn63
  refine wp_region_quiet_below (by kernel_rfl) (by kernel_rfl) ?_
  repeat (first
    | (go_big_quiet_want; refine quiet_row 34 _ rfl b0 rfl 34 N (0, 0) _ hn undN rfl HIN.out ?_; simp only [Act.put, List.setIfInBounds_toArray, List.set_cons_zero, List.set_cons_succ]; go_big_quiet_on)
    | go_big_quiet_step (first | with_reducible exact C1.out _ _ | with_reducible exact C2.out _ _ | with_reducible exact C3.out _ _ | with_reducible exact C4.out _ _ | with_reducible exact C5.out _ _ | with_reducible exact C6.out _ _))
  refine wpQuiet_nil ?_
  rintro w4 ⟨⟨dq, osq⟩, hq4⟩
  have hb4 : Below W.heap.size W w4 := by rw [hq4]; exact below_regrown W dq osq
  exact HQ.out _ _ _ _ _ _ _ _ _ _ _ _ _ _ _ _ _ _ _ _ _ _ _ _ _ _ _ _ _ _ _ _ _ _ _ _ _ _ _ _ _ _ _ _ _ _ _ _ _ _ _ _ _ _ _ _ _ _ _ _ _ _ _ _ _ _ _ _ _ _ _ _ _ _ _ _ _ _ _ _ _ _ _ _ _ _ _ _ _ _ _ _ _ _ _ _ _ _ _ _ _ _ _ _ _ _ _ _ _ _ _ _ _ _ _ _ _ _ _ _ _ _ _ _ _ _ _ _ _ _ _ _ _ _ _ _ _ _ _ _ _ _ _ _ _ _ _ _ _ _ _ _ _ _ _ _ _ _ _ _ _ _ hb4
end Go.Proofs.YtggpffipijoddaaDoor
namespace Go.Proofs.YtggpffipijoddaaDoor
open Go Go.RowKit Go.Shelf
attribute [local go_sem] Oper.semAt_some

theorem eqSfunN (w : World) (fi : Nat) (caps : Array Value) : (binOp .eql 53 (.func (.func fi) #[] caps) .nilFunc).run Tryd.prog w = .ok (.bool false) w := by kernel_rfl
theorem tells8_29 : fromRegion 29 (sndC (fromRegion 8 tellsC)) = fromRegion 29 tellsC := by kernel_rfl
theorem tells8_seq : fromRegion 8 tellsC = Code.seq (fstC (fromRegion 8 tellsC)) (sndC (fromRegion 8 tellsC)) := by kernel_rfl
/-- where the range over all nodes begins. -/
theorem RI.start {B0 b0 p3 : Nat} {w W : World} {N : Array Value} {ln : List Tr} {Al : Option Addr} {cl : Nat} (h1 : Below B0 w W) (h2 : W.heap[b0]? = some (.cells N 34)) {u : Value} (h3 : Boxed W (b0 + 1) 4 u) (h4 : Boxed W p3 32 (.slice Al ln.length cl)) (h5 : SlAt W W.heap.size Al cl ln) (h6 : b0 + 1 < p3) (h7 : B0 ≤ b0) (_k : Value) :
    RI B0 b0 p3 W.heap.size (W.heap.size + 1) (W.heap.size + 2) w N ln [] [] (((W.alloc (.cells #[.int .i64 0] 3)).alloc (.cells #[.slice none 0 0] 43)).alloc (.cells #[.slice none 0 0] 55)) := by
  obtain ⟨Wa, hWa⟩ : ∃ Wa, Wa = W.alloc (.cells #[.int .i64 0] 3) := ⟨_, rfl⟩
  obtain ⟨Wb, hWb⟩ : ∃ Wb, Wb = Wa.alloc (.cells #[.slice none 0 0] 43) := ⟨_, rfl⟩
  obtain ⟨Wc, hWc⟩ : ∃ Wc, Wc = Wb.alloc (.cells #[.slice none 0 0] 55) := ⟨_, rfl⟩
  have hza : Wa.heap.size = W.heap.size + 1 := by rw [hWa, World.size_alloc]
  have hzb : Wb.heap.size = W.heap.size + 2 := by rw [hWb, World.size_alloc, hza]
  have hzc : Wc.heap.size = W.heap.size + 3 := by rw [hWc, World.size_alloc, hzb]
  have hp3 : p3 < W.heap.size := (Array.getElem?_eq_some_iff.1 (show W.heap[p3]? = _ from h4)).1
  have e1 : Boxed Wa W.heap.size 3 (.int .i64 0) := by rw [hWa]; exact heap_alloc_new _ _
  have e2 : Boxed Wb (W.heap.size + 1) 43 (.slice none 0 0) := by rw [hWb, ← hza]; exact heap_alloc_new _ _
  have e3 : Boxed Wc (W.heap.size + 2) 55 (.slice none 0 0) := by rw [hWc, ← hzb]; exact heap_alloc_new _ _
  have hbc : Below Wb.heap.size Wb Wc := by rw [hWc]; exact (Below.refl _ _).alloc (Nat.le_refl _) _
  have hbb : Below Wa.heap.size Wa Wb := by rw [hWb]; exact (Below.refl _ _).alloc (Nat.le_refl _) _
  have hba : Below W.heap.size W Wa := by rw [hWa]; exact (Below.refl _ _).alloc (Nat.le_refl _) _
  have hb : Below W.heap.size W Wc := hba.trans ((hbb.mono (by omega)).trans (hbc.mono (by omega)))
  rw [← hWa, ← hWb, ← hWc]
  have hc : Ch (fun _ => False) W Wc := .below hb
  refine ⟨⟨h1.trans (hb.mono (by omega)), (hb.block _ (by omega)).trans h2, ⟨u, hc.boxed h3 (fun h => h)⟩, ⟨Al, cl, hc.boxed h4 (fun h => h), h5.below hb⟩, h6, hp3, by omega, h7⟩, ?_, ⟨_, ?_, ⟨rfl, .inl ⟨rfl, rfl⟩⟩⟩, ⟨_, e3, ⟨rfl, .inl ⟨rfl, rfl⟩⟩⟩, List.nil_prefix, trivial, by omega⟩
  · exact (hbc.block _ (by omega)).trans ((hbb.block _ (by omega)).trans e1)
  · exact (hbc.block _ (by omega)).trans e2

set_option maxRecDepth 100000 in
set_option maxHeartbeats 8000000 in
theorem tells_from8 (u0 u4 u5 u6 u7 u8 u9 u10 u11 u12 u13 u14 u15 u16 u17 u18 u19 u20 u21 u22 u23 u24 u25 u26 u27 u28 u29 u30 u31 u32 u33 u34 u35 u36 u37 u38 u39 u40 u41 u42 u43 u44 u45 u46 u47 u48 u49 u50 u51 u52 u53 u54 u55 u56 u57 u58 u59 u60 u61 u62 u63 u64 u65 u66 u67 u68 u69 u70 u71 u72 u73 u74 u75 u76 u77 u78 u79 u80 u81 u82 u83 u84 u85 u86 u87 u88 u89 u90 u91 u92 u93 u94 u95 u96 u97 u98 u99 u100 u101 u102 u103 u104 u105 u106 u107 u108 u109 u110 u111 u112 u113 u114 u115 u116 u117 u118 u119 u120 u121 u122 u123 u124 u125 u126 u127 u128 u129 u130 u131 u132 u133 u134 u135 u136 u137 u138 u139 u140 u141 u142 u143 u144 u145 u146 u147 u148 u149 u150 u151 u152 u153 u154 u155 u156 u157 u158 u159 u160 u161 u162 u163 u164 : Value) (B0 b0 p3 c al cl : Nat) (Al : Option Addr) (w W : World) (N : Array Value) (t : Tr) (A : Option Addr) (h1 : Below B0 w W) (h2 : W.heap[b0]? = some (.cells N 34)) (u : Value) (h3 : Boxed W (b0 + 1) 4 u) (h4 : Boxed W p3 32 (.slice Al t.nodes.length cl)) (h5 : SlAt W W.heap.size Al cl t.nodes) (h6 : b0 + 1 < p3) (h7 : B0 ≤ b0) (hal : al = t.l.length) (hN : N = nodeA t.d A al c) (hd : t.d.ok) (hs : SlAt w B0 A c t.l) (hz : t.size ≤ 1000) (Q : Exit → Act → World → Prop)
    (hQ : ∀ (u0 u1 u3 u4 u5 u6 u7 u8 u9 u10 u11 u12 u13 u14 u15 u16 u17 u18 u19 u20 u21 u22 u23 u24 u25 u26 u27 u28 u29 u30 u31 u32 u33 u34 u35 u36 u37 u38 u39 u40 u41 u42 u43 u44 u45 u46 u47 u48 u49 u50 u51 u52 u53 u54 u55 u56 u57 u58 u59 u60 u61 u62 u63 u64 u65 u66 u67 u68 u69 u70 u71 u72 u73 u74 u75 u76 u77 u78 u79 u80 u81 u82 u83 u84 u85 u86 u87 u88 u89 u90 u91 u92 u93 u94 u95 u96 u97 u98 u99 u100 u101 u102 u103 u104 u105 u106 u107 u108 u109 u110 u111 u112 u113 u114 u115 u116 u117 u118 u119 u120 u121 u122 u123 u124 u125 u126 u127 u128 u129 u130 u131 u132 u133 u134 u135 u136 u137 u138 u139 u140 u141 u142 u143 u144 u145 u146 u147 u148 u149 u150 u151 u152 u153 u154 u155 u156 u157 u158 u159 u160 u161 u162 u163 u164 : Value) (ds' : List Deferred) (W' : World) (pn : Nat), B0 ≤ pn → Below B0 w W' → Boxed W' (b0 + 1) 4 (.bool true) → Marks (pn + 1) ds' W' → Q .ret ⟨#[u0, u1, .pointer (some ⟨b0 + 1, 0, none⟩), u3, u4, u5, u6, u7, u8, u9, u10, u11, u12, u13, u14, u15, u16, u17, u18, u19, u20, u21, u22, u23, u24, u25, u26, u27, u28, u29, u30, u31, u32, u33, u34, u35, u36, u37, u38, u39, u40, u41, u42, u43, u44, u45, u46, u47, u48, u49, u50, u51, u52, u53, u54, u55, u56, u57, u58, u59, u60, u61, u62, u63, u64, u65, u66, u67, u68, u69, u70, u71, u72, u73, u74, u75, u76, u77, u78, u79, u80, u81, u82, u83, u84, u85, u86, u87, u88, u89, u90, u91, u92, u93, u94, u95, u96, u97, u98, u99, u100, u101, u102, u103, u104, u105, u106, u107, u108, u109, u110, u111, u112, u113, u114, u115, u116, u117, u118, u119, u120, u121, u122, u123, u124, u125, u126, u127, u128, u129, u130, u131, u132, u133, u134, u135, u136, u137, u138, u139, u140, u141, u142, u143, u144, u145, u146, u147, u148, u149, u150, u151, u152, u153, u154, u155, u156, u157, u158, u159, u160, u161, u162, u163, u164], ds'⟩ W') :
    (fromRegion 8 tellsC).wp Tryd.prog Q ⟨#[u0, .pointer (some ⟨b0, 0, none⟩), .pointer (some ⟨b0 + 1, 0, none⟩), .pointer (some ⟨p3, 0, none⟩), u4, u5, u6, u7, u8, u9, u10, u11, u12, u13, u14, u15, u16, u17, u18, u19, u20, u21, u22, u23, u24, u25, u26, u27, u28, u29, u30, u31, u32, u33, u34, u35, u36, u37, u38, u39, u40, u41, u42, u43, u44, u45, u46, u47, u48, u49, u50, u51, u52, u53, u54, u55, u56, u57, u58, u59, u60, u61, u62, u63, u64, u65, u66, u67, u68, u69, u70, u71, u72, u73, u74, u75, u76, u77, u78, u79, u80, u81, u82, u83, u84, u85, u86, u87, u88, u89, u90, u91, u92, u93, u94, u95, u96, u97, u98, u99, u100, u101, u102, u103, u104, u105, u106, u107, u108, u109, u110, u111, u112, u113, u114, u115, u116, u117, u118, u119, u120, u121, u122, u123, u124, u125, u126, u127, u128, u129, u130, u131, u132, u133, u134, u135, u136, u137, u138, u139, u140, u141, u142, u143, u144, u145, u146, u147, u148, u149, u150, u151, u152, u153, u154, u155, u156, u157, u158, u159, u160, u161, u162, u163, u164], []⟩ W := by
  dsimp only
  dsimp only at hQ
  have e29 := cut_from 29 (sndC (fromRegion 8 tellsC))
  rw [tells8_29] at e29
  obtain ⟨C, hC⟩ : ∃ C, C = fromRegion 29 tellsC := ⟨_, rfl⟩
  rw [← hC] at e29
  have HC := Lib.hid hC
  clear hC
  have hNs : N.size = 22 := by rw [hN]; rfl
  have HQ := Lib.hid hQ
  clear hQ
  rw [tells8_seq]
  refine wp_seq_k (fun K hK => ?_)
  obtain ⟨r, hr⟩ : ∃ r, W.heap.size = r := ⟨_, rfl⟩
  refine tells8 _ _ _ _ _ _ _ _ _ _ _ _ _ _ _ _ _ _ _ _ _ _ _ _ _ _ _ _ _ _ _ _ _ _ _ _ _ _ _ _ _ _ _ _ _ _ _ _ _ _ _ _ _ _ _ _ _ _ _ _ _ _ _ _ _ _ _ _ _ _ _ _ _ _ _ _ _ _ _ _ _ _ _ _ _ _ _ _ _ _ _ _ _ _ _ _ _ _ _ _ _ _ _ _ _ _ _ _ _ _ _ _ _ _ _ _ _ _ _ _ _ _ _ _ _ _ _ _ _ _ _ _ _ _ _ _ _ _ _ _ _ _ _ _ _ _ _ _ _ _ _ _ _ _ _ _ _ _ _ _ _ _ _ _ b0 W N hNs [] h2 _ r hr ?_
  refine hK _ _ ?_
  clear hK K
  rw [← e29]
  clear e29
  dsimp only
  obtain ⟨W2, hW2⟩ : ∃ W2, W2 = (W.drew.alloc (.cells N 34)).alloc (.cells N 34) := ⟨_, rfl⟩
  rw [← hW2]
  have hb0 : Below W.heap.size W W.drew := (Below.refl _ W).drew
  have hb2 : Below W.heap.size W W2 := by rw [hW2]; exact (hb0.alloc (Nat.le_refl _) _).alloc (by rw [World.size_alloc]; exact Nat.le_succ _) _
  have hz1 : (W.drew.alloc (.cells N 34)).heap.size = r + 1 := by rw [World.size_alloc]; show W.heap.size + 1 = r + 1; omega
  have hz2 : W2.heap.size = r + 2 := by rw [hW2, World.size_alloc, hz1]
  have hr1 : W2.heap[r]? = some (.cells N 34) := by
    rw [hW2]; refine (heapOld _ _ _ (by omega)).trans ?_
    rw [← hr]; exact heap_alloc_new W.drew _
  have hr2 : W2.heap[r + 1]? = some (.cells N 34) := by rw [hW2, ← hz1]; exact heap_alloc_new _ _
  have hri := RI.start (h1.trans (hb2.mono (by rw [← hr] at *; have := h1.size; have := h4; have h8 := (Array.getElem?_eq_some_iff.1 (show W.heap[p3]? = _ from h4)).1; omega))) ((hb2.block _ (by have h8 := (Array.getElem?_eq_some_iff.1 h2).1; omega)).trans h2) ((hb2.block _ (by have h8 := (Array.getElem?_eq_some_iff.1 (show W.heap[b0 + 1]? = _ from h3)).1; omega)).trans h3) ((hb2.block _ (by have h8 := (Array.getElem?_eq_some_iff.1 (show W.heap[p3]? = _ from h4)).1; omega)).trans h4) ((h5.below hb2).more hb2.size) h6 h7 undef
  have hp3 : p3 < r := by have h8 := (Array.getElem?_eq_some_iff.1 (show W.heap[p3]? = _ from h4)).1; omega
  obtain ⟨g, hg⟩ : ∃ g, g = W2.heap.size := ⟨_, rfl⟩
  rw [← hg] at hri hz2
  have efn := fun w => eqSfun w 34 #[.pointer (some ⟨r + 1, 0, none⟩)]
  have efnN := fun w => eqSfunN w 39 #[.pointer (some ⟨r, 0, none⟩)]
  have HRI := Lib.hid hri
  have HR1 := Lib.hid hr1
  have HR2 := Lib.hid hr2
  have HG := Lib.hid hg
  have HZ2 := Lib.hid hz2
  have HD := Lib.hid hd
  have HS := Lib.hid hs
  have HZ := Lib.hid hz
  have HN := Lib.hid hN
  have HAL := Lib.hid hal
  have HP3 := Lib.hid (And.intro hp3 (And.intro h6 h7))
  clear hri hr1 hr2 hg hz2 hz1 hb2 hb0 hW2 h1 h2 h3 h4 h5 h6 h7 hd hs hz hN hal hp3 hr hNs u
  conv => arg 2; whnf; repeat (arg 2; whnf)
  go_wp2
  rw [← HG.out]
  have hg2 := HZ2.out
  have hgs := HG.out
  have hp3 := HP3.out
  have hr1 := HR1.out
  have hr2 := HR2.out
  have e0 : ∀ j, j < g → (((W2.alloc (.cells #[.int .i64 0] 3)).alloc (.cells #[.slice none 0 0] 43)).alloc (.cells #[.slice none 0 0] 55)).heap[j]? = W2.heap[j]? := fun j hj =>
    (heapOld _ _ _ (by rw [World.size_alloc, World.size_alloc]; omega)).trans ((heapOld _ _ _ (by rw [World.size_alloc]; omega)).trans (heapOld _ _ _ (by omega)))
  have hr1' := (e0 r (by omega)).trans hr1
  rw [HN.out, HAL.out] at hr1'
  have hr2' := (e0 (r + 1) (by omega)).trans hr2
  have HR2' := Lib.hid hr2'
  refine tells_range _ _ _ _ _ _ _ _ _ _ _ _ _ _ _ _ _ _ _ _ _ _ _ _ _ _ _ _ _ _ _ _ _ _ _ _ _ _ _ _ _ _ _ _ _ _ _ _ _ _ _ _ _ _ _ _ _ _ _ _ _ _ _ _ _ _ _ _ _ _ _ _ _ _ _ _ _ _ _ _ _ _ _ _ _ _ _ _ _ _ _ _ _ _ _ _ _ _ _ _ _ _ _ _ _ _ _ _ _ _ _ _ _ _ _ _ _ _ _ _ _ _ _ _ _ _ _ _ _ _ _ _ _ _ _ _ _ _ _ _ _ _ _ _ _ _ _ _ _ _ _ _ _ _ _ _ _ _ _ B0 b0 p3 g (g + 1) (g + 2) r c w _ N t A [] HRI.out (by omega) (by omega) (by omega) (by omega) hr1' HD.out HS.out HZ.out _ ?_
  intro D W' ys hys hri' hbW
  have hr2'' := (hbW.block (r + 1) (by omega)).trans HR2'.out
  clear e0 hr1 hr2 hr1' hr2' HR2' HRI HR1 HR2 efn efnN
  dsimp only
  have HRI := Lib.hid hri'
  have HYS := Lib.hid hys
  have HR := Lib.hid hr2''
  clear hri' hys hr2'' hbW
  go_wp2
  rw [HC.out]
  exact tells_tail _ _ _ _ _ _ _ _ _ _ _ _ _ _ _ _ _ _ _ _ _ _ _ _ _ _ _ _ _ _ _ _ _ _ _ _ _ _ _ _ _ _ _ _ _ _ _ _ _ _ _ _ _ _ _ _ _ _ _ _ _ _ _ _ _ _ _ _ _ _ _ _ _ _ _ _ _ _ _ _ _ _ _ _ _ _ _ _ _ _ _ _ _ _ _ _ _ _ _ _ _ _ _ _ _ _ _ _ _ _ _ _ _ _ _ _ _ _ _ _ _ _ _ _ _ _ _ _ _ _ _ _ _ _ _ _ _ _ _ _ _ _ _ _ _ _ _ _ _ _ _ _ _ _ _ _ _ _ B0 b0 p3 g (g + 1) (g + 2) (r + 1) c al w W' N t A [markOf D] ys HRI.out HYS.out (by omega) (by omega) (by omega) (by omega) HR.out HAL.out HN.out HD.out HS.out HZ.out Q (by
    intro u0 u1 u3 u4 u5 u6 u7 u8 u9 u10 u11 u12 u13 u14 u15 u16 u17 u18 u19 u20 u21 u22 u23 u24 u25 u26 u27 u28 u29 u30 u31 u32 u33 u34 u35 u36 u37 u38 u39 u40 u41 u42 u43 u44 u45 u46 u47 u48 u49 u50 u51 u52 u53 u54 u55 u56 u57 u58 u59 u60 u61 u62 u63 u64 u65 u66 u67 u68 u69 u70 u71 u72 u73 u74 u75 u76 u77 u78 u79 u80 u81 u82 u83 u84 u85 u86 u87 u88 u89 u90 u91 u92 u93 u94 u95 u96 u97 u98 u99 u100 u101 u102 u103 u104 u105 u106 u107 u108 u109 u110 u111 u112 u113 u114 u115 u116 u117 u118 u119 u120 u121 u122 u123 u124 u125 u126 u127 u128 u129 u130 u131 u132 u133 u134 u135 u136 u137 u138 u139 u140 u141 u142 u143 u144 u145 u146 u147 u148 u149 u150 u151 u152 u153 u154 u155 u156 u157 u158 u159 u160 u161 u162 u163 u164 ds' W4 h1 h2 h3
    exact HQ.out u0 u1 u3 u4 u5 u6 u7 u8 u9 u10 u11 u12 u13 u14 u15 u16 u17 u18 u19 u20 u21 u22 u23 u24 u25 u26 u27 u28 u29 u30 u31 u32 u33 u34 u35 u36 u37 u38 u39 u40 u41 u42 u43 u44 u45 u46 u47 u48 u49 u50 u51 u52 u53 u54 u55 u56 u57 u58 u59 u60 u61 u62 u63 u64 u65 u66 u67 u68 u69 u70 u71 u72 u73 u74 u75 u76 u77 u78 u79 u80 u81 u82 u83 u84 u85 u86 u87 u88 u89 u90 u91 u92 u93 u94 u95 u96 u97 u98 u99 u100 u101 u102 u103 u104 u105 u106 u107 u108 u109 u110 u111 u112 u113 u114 u115 u116 u117 u118 u119 u120 u121 u122 u123 u124 u125 u126 u127 u128 u129 u130 u131 u132 u133 u134 u135 u136 u137 u138 u139 u140 u141 u142 u143 u144 u145 u146 u147 u148 u149 u150 u151 u152 u153 u154 u155 u156 u157 u158 u159 u160 u161 u162 u163 u164 ds' W4 (g + 2) (by omega) h1 h2 h3)
end Go.Proofs.YtggpffipijoddaaDoor
namespace Go.Proofs.YtggpffipijoddaaDoor
open Go Go.RowKit Go.Shelf
attribute [local go_sem] Oper.semAt_some

/-- all nodes, as a slice of nodes in memory. -/
theorem nodes_slT {w w' : World} {B : Nat} {ts : List Tr} {e : Ending} (hB : B ≤ w.heap.size) (h : NodesPost w B ts e w') : ∃ A cap, e = .returned (.slice A ts.length cap) ∧ SlAt w' w'.heap.size A cap ts ∧ Below w.heap.size w w' := by
  obtain ⟨g, cap, xs, rfl, hown, hrow, hb⟩ := h
  refine ⟨_, cap, rfl, ?_, hb⟩
  have hlt := hown.lt g rfl
  have hk : KidsAt w' w'.heap.size g 0 ts := NRow.kids hlt.2 ((hrow.keep (hb.mono hB)).more (by have := hb.size; omega)) (fun j u hu => by rw [Nat.zero_add]; exact own_cell hown rfl j u hu)
  rcases hown.2 with ⟨h1, _⟩ | ⟨g', cap', cur, hv, _, _, h4, h5, _⟩
  · cases h1
  · simp only [Value.slice.injEq] at hv
    obtain ⟨-, -, rfl⟩ := hv
    exact ⟨by omega, by unfold maxLen at h5; omega, .inr ⟨g, 0, rfl, hk⟩⟩
theorem res_boolT {tmps : Array Value} {b : Nat} {v : Value} {w : World} (hp : tmps.getD 2 undef = .pointer (some ⟨b, 0, none⟩)) (hc : w.cell? ⟨b, 0, none⟩ = some v) : (results Tryd.f7 tmps).run Tryd.prog w = .ok v w := by
  have h : Tryd.f7.results = #[.cell 2 4] := rfl
  have hp' : tmps[2]?.getD undef = .pointer (some ⟨b, 0, none⟩) := by rw [← hp]; simp
  simp only [results, h]
  simp [go_sem, hp', hc]
theorem tells_leaves {tmps : Array Value} {ds : List Deferred} {b0 a0 : Nat} {w W : World} (hB : w.heap.size ≤ a0 + 1) (h : Below w.heap.size w W) (hb : Boxed W (b0 + 1) 4 (.bool true)) (hm : Marks (a0 + 1) ds W) (hp : tmps.getD 2 undef = .pointer (some ⟨b0 + 1, 0, none⟩)) :
    bodyPostM Fence.wide 5 Tryd.prog Tryd.f7 (fun e w' => e = .returned (.bool true) ∧ Below w.heap.size w w') .ret ⟨tmps, ds⟩ W := by
  refine leaves_marks ds W hm (fun W' hw hk => ?_)
  have hb' : Boxed W' (b0 + 1) 4 (.bool true) := hk _ _ _ _ hb
  exact ⟨_, res_boolT hp hb'.cell, rfl, h.trans (hw.mono hB)⟩

set_option maxRecDepth 100000 in
set_option maxHeartbeats 8000000 in
theorem treeTells_walk (t : Tr) (w : World) (A : Option Addr) (c : Nat) (hd : t.d.ok) (hs : SlAt w w.heap.size A c t.l) (hz : t.size ≤ 1048576) (ht : Tab w) :
    Calls Tryd.prog 7 #[nodeV t.d A t.l.length c] w fun e w' => e = .returned (.bool true) ∧ Below w.heap.size w w' := by
  have hG := fun wx (hx : Below w.heap.size w wx) => great_c t wx w.heap.size A c hd (hs.below hx) hx.size hz
  have hNO := fun wx (hx : Below w.heap.size w wx) => (nodes_c t wx w.heap.size A c hd (hs.below hx) hx.size hz).mono (fun _ _ h => nodes_slT hx.size h)
  obtain ⟨al, hal⟩ : ∃ al, al = t.l.length := ⟨_, rfl⟩
  obtain ⟨N, hN⟩ : ∃ N, N = nodeA t.d A al c := ⟨_, rfl⟩
  have hSZ : ∀ wx, Below w.heap.size w wx → Calls Tryd.prog 12 #[.agg N] wx fun e w' => e = .returned (.int .i64 t.size) ∧ Below wx.heap.size wx w' := fun wx hx => by
    have := size_c wx w.heap.size hx.size t A c hd (hs.below hx) (by omega)
    rw [nodeV, ← hal, ← hN] at this; exact this
  have hDP : ∀ wx, Below w.heap.size w wx → Calls Tryd.prog 13 #[.agg N] wx fun e w' => e = .returned (.int .i64 t.depth) ∧ Below wx.heap.size wx w' := fun wx hx => by
    have := depth_c wx w.heap.size hx.size t A c hd (hs.below hx) (by omega)
    rw [nodeV, ← hal, ← hN] at this; exact this
  have hRD : ∀ wx, Below w.heap.size w wx → Calls Tryd.prog 22 #[.agg N] wx fun e w' => e = .returned (.int .i64 t.depth) ∧ Below wx.heap.size wx w' := fun wx hx => by
    have := rdepth_c t wx w.heap.size A c hd (hs.below hx) hx.size hz
    rw [nodeV, ← hal, ← hN] at this; exact this
  have hCK : ∀ wx, Below w.heap.size w wx → Calls Tryd.prog 10 #[.agg N] wx fun e w' => e = .returned (.int .i64 (checkI t)) ∧ Below wx.heap.size wx w' := fun wx hx => by
    have := check_c wx w.heap.size hx.size t A c hd (hs.below hx) (by omega)
    rw [nodeV, ← hal, ← hN] at this; exact this
  have hRC : ∀ wx, Below w.heap.size w wx → Calls Tryd.prog 23 #[.agg N] wx fun e w' => e = .returned (.int .i64 (checkI t)) ∧ Below wx.heap.size wx w' := fun wx hx => by
    have := rcheck_c t wx w.heap.size A c hd (hs.below hx) hx.size hz
    rw [nodeV, ← hal, ← hN] at this; exact this
  have hSM : ∀ wx, Below w.heap.size w wx → Calls Tryd.prog 14 #[.agg N, .agg N] wx fun e w' => e = .returned (.bool true) ∧ Below wx.heap.size wx w' := fun wx hx => by
    have := tsame_c t t wx w.heap.size A A c c hd (hs.below hx) hd (hs.below hx) hx.size (by omega)
    rw [nodeV, ← hal, ← hN] at this
    rw [(sameB_eq t t).2 rfl] at this; exact this
  rw [← hal] at hG hNO ⊢
  have hNs : N.size = 22 := by rw [hN]; rfl
  simp only [nodeV, ← hN] at hG hNO ⊢
  have hinf := infN
  rw [← hNs] at hinf
  have hgz : greatB t = false → t.size ≤ 1000 := by
    intro h
    unfold greatB at h
    simp only [Bool.or_eq_false_iff, decide_eq_false_iff_not] at h
    omega
  obtain ⟨g, hg⟩ : ∃ g, g = greatB t := ⟨_, rfl⟩
  rw [← hg] at hG hgz
  have HG := Lib.hid hG
  have HNO := Lib.hid hNO
  have HGZ := Lib.hid hgz
  have HIN := Lib.hid hinf
  have HT := Lib.hid ht
  have HN := Lib.hid hN
  have HNS := Lib.hid hNs
  have HD := Lib.hid hd
  have HS := Lib.hid hs
  have HAL := Lib.hid hal
  have HSZ := Lib.hid hSZ
  have HDP := Lib.hid hDP
  have HRD := Lib.hid hRD
  have HCK := Lib.hid hCK
  have HRC := Lib.hid hRC
  have HSM := Lib.hid hSM
  clear hG hNO hgz hinf hNs hN hal hd hs hg ht hz hSZ hDP hRD hCK hRC hSM
  refine callsIn_wide (n := 5) |>.1 ?_
  refine callsIn_of_wp_marks Tryd.func7 rfl trivial ?_ rfl
  simp only [Tryd.ntmps7, List.size_toArray, List.length_cons, List.length_nil, Nat.reduceAdd, Nat.reduceSub, Array.replicate_succ, Array.replicate_zero, List.push_toArray, List.append_toArray, List.nil_append, List.cons_append]
  refine wpIn_wide.2 ?_
  have e8 := cut_from 8 tellsC
  obtain ⟨C, hC⟩ : ∃ C, C = fromRegion 8 tellsC := ⟨_, rfl⟩
  rw [← hC] at e8
  have HC := Lib.hid hC
  clear hC
  change Code.wp Tryd.prog tellsC _ _ _
  rw [← e8]
  clear e8
  conv => arg 2; whnf; repeat (arg 2; whnf)
  obtain ⟨W0, hW0⟩ : ∃ W0, W0 = (w.alloc (.cells N 34)).alloc (.cells #[.bool false] 4) := ⟨_, rfl⟩
  have hb0 : Below w.heap.size w W0 := by rw [hW0]; exact ((Below.refl _ w).alloc (Nat.le_refl _) _).alloc (by simp) _
  have hsz0 : W0.heap.size = w.heap.size + 2 := by rw [hW0]; simp
  have hk0 : W0.heap[w.heap.size]? = some (.cells N 34) := by rw [hW0]; exact (heapOld _ _ _ (by simp)).trans (heap_alloc_new _ _)
  have hk1 : Boxed W0 (w.heap.size + 1) 4 (.bool false) := by
    rw [hW0]; have := heap_alloc_new (w.alloc (.cells N 34)) (.cells #[.bool false] 4); rwa [World.size_alloc] at this
  have hmono : ∀ wx, Below W0.heap.size W0 wx → Below w.heap.size w wx ∧ wx.heap[w.heap.size]? = some (.cells N 34) ∧ Boxed wx (w.heap.size + 1) 4 (.bool false) := fun wx hx =>
    ⟨hb0.trans (hx.mono (by omega)), (hx.block _ (by omega)).trans hk0, (hx.block _ (by omega)).trans hk1⟩
  have HM := Lib.hid hmono
  have HW0 := Lib.hid hW0
  have HB0 := Lib.hid hb0
  have HSZ0 := Lib.hid hsz0
  clear hmono hW0 hb0 hsz0 hk0 hk1
  go_wp2_with (fail)
  rw [← HW0.out]
  refine (awake_c W0 (tab_below HT.out HB0.out)).mono ?_
  rintro e w1 ⟨rfl, hb1⟩
  obtain ⟨hw1, hn1, hx1⟩ := HM.out w1 hb1
  have HB1 := Lib.hid hb1
  have HW1 := Lib.hid hw1
  have HX1 := Lib.hid hx1
  clear hb1 hw1 hx1
  go_wp2_with (first | (refine wpList_row rfl 34 _ rfl w.heap.size rfl 34 N (0, 0) _ hn1 undN rfl HIN.out ?_) | fail)
  refine (HG.out _ HW1.out).mono ?_
  rintro e w2 ⟨rfl, hb2⟩
  have hb2 : Below W0.heap.size W0 w2 := HB1.out.trans (hb2.mono HB1.out.size)
  obtain ⟨hw2, hn2, hx2⟩ := HM.out w2 hb2
  have HB2 := Lib.hid hb2
  have HW2 := Lib.hid hw2
  have HX2 := Lib.hid hx2
  have huc := hx2.cell
  have huf := hx2.frozen
  clear hb2 hw2 hx2 hn1
  cases g
  case true =>
    as_aux_lemma =>
    go_wp2
    exact tells_leaves (b0 := w.heap.size) (a0 := w.heap.size) (by omega) (HW2.out.setCell (by simp only; omega) _) (HX2.out.set _) trivial rfl
  case false =>
  have hz := HGZ.out rfl
  have HZ := Lib.hid hz
  clear hz
  go_wp2_with (first | (refine wpList_row rfl 34 _ rfl w.heap.size rfl 34 N (0, 0) _ hn2 undN rfl HIN.out ?_) | fail)
  refine (HNO.out _ HW2.out).mono ?_
  rintro e w3 ⟨Al, cl, rfl, hsl, hb3⟩
  have hb3 : Below W0.heap.size W0 w3 := HB2.out.trans (hb3.mono HB2.out.size)
  have HSL := Lib.hid hsl
  have HB3 := Lib.hid hb3
  clear hsl hb3 hn2 huc huf
  go_wp2
  obtain ⟨W4, hW4⟩ : ∃ W4, W4 = w3.alloc (.cells #[.slice Al t.nodes.length cl] 32) := ⟨_, rfl⟩
  rw [← hW4]
  have hb34 : Below w3.heap.size w3 W4 := by rw [hW4]; exact (Below.refl _ _).alloc (Nat.le_refl _) _
  have hb4 : Below W0.heap.size W0 W4 := HB3.out.trans (hb34.mono HB3.out.size)
  obtain ⟨hw4, hn4, hx4⟩ := HM.out W4 hb4
  have hl4 : Boxed W4 w3.heap.size 32 (.slice Al t.nodes.length cl) := by rw [hW4]; exact heap_alloc_new _ _
  have hs4 : SlAt W4 W4.heap.size Al cl t.nodes := (HSL.out.below hb34).more hb34.size
  have hp3 : w.heap.size + 1 < w3.heap.size := by have h1 := HB3.out.size; have h2 := HSZ0.out; omega
  have hnl := nodes_len t
  have hm4 : ∀ wx, Below W4.heap.size W4 wx → Below w.heap.size w wx := fun wx hx => hw4.trans (hx.mono hw4.size)
  have HP3 := Lib.hid hp3
  have HW4 := Lib.hid hw4
  have HN4 := Lib.hid hn4
  have HX4 := Lib.hid hx4
  have HL4 := Lib.hid hl4
  have HS4 := Lib.hid hs4
  have HM4 := Lib.hid hm4
  have HNL := Lib.hid hnl
  clear hW4 hb34 hb4 hw4 hn4 hx4 hl4 hs4 hp3 hnl hm4 HSL HB3
  refine tells6 _ _ _ _ _ _ _ _ _ _ _ _ _ _ _ _ _ _ _ _ _ _ _ _ _ _ _ _ _ _ _ _ _ _ _ _ _ _ _ _ _ _ _ _ _ _ _ _ _ _ _ _ _ _ _ _ _ _ _ _ _ _ _ _ _ _ _ _ _ _ _ _ _ _ _ _ _ _ _ _ _ _ _ _ _ _ _ _ _ _ _ _ _ _ _ _ _ _ _ _ _ _ _ _ _ _ _ _ _ _ _ _ _ _ _ _ _ _ _ _ _ _ _ _ _ _ _ _ _ _ _ _ _ _ _ _ _ _ _ _ _ _ _ _ _ _ _ _ _ _ _ _ _ _ _ _ _ _ _ _ _ _ w.heap.size w3.heap.size t.nodes.length t.depth cl (checkI t) Al W4 N HNS.out [] HN4.out HL4.out.cell (by have h1 := HNL.out; have h2 := HZ.out; omega) (fun wx hx => by rw [HNL.out]; exact HSZ.out wx (HM4.out wx hx)) (fun wx hx => HDP.out wx (HM4.out wx hx)) (fun wx hx => HRD.out wx (HM4.out wx hx)) (fun wx hx => HCK.out wx (HM4.out wx hx)) (fun wx hx => HRC.out wx (HM4.out wx hx)) (fun wx hx => HSM.out wx (HM4.out wx hx)) _ ?_
  intro x0 x4 x5 x6 x7 x8 x9 x10 x11 x12 x13 x14 x15 x16 x17 x18 x19 x20 x21 x22 x23 x24 x25 x26 x27 x28 x29 x30 x31 x32 x33 x34 x35 x36 x37 x38 x39 x40 x41 x42 x43 x44 x46 x47 x48 x49 x50 x51 x52 x53 x54 x55 x56 x57 x58 x59 x60 x61 x62 x63 x64 x65 x66 x67 x68 x69 x70 x71 x72 x73 x74 x75 x76 x77 x78 x79 x80 x81 x82 x83 x84 x85 x86 x87 x88 x89 x90 x91 x92 x93 x94 x95 x96 x97 x98 x99 x100 x101 x102 x103 x104 x105 x106 x107 x108 x109 x110 x111 x112 x113 x114 x115 x116 x117 x118 x119 x120 x121 x122 x123 x124 x125 x126 x127 x128 x129 x130 x131 x132 x133 x134 x135 x136 x137 x138 x139 x140 x141 x142 x143 x144 x145 x146 x147 x148 x149 x150 x151 x152 x153 x154 x155 x156 x157 x158 x159 x160 x161 x162 x163 x164 W5 hb5
  dsimp only
  have hw5 := HM4.out W5 hb5
  have hn5 := (hb5.block _ (Array.getElem?_eq_some_iff.1 HN4.out).1).trans HN4.out
  have hx5 : Boxed W5 (w.heap.size + 1) 4 (.bool false) := (hb5.block _ (Array.getElem?_eq_some_iff.1 (show W4.heap[w.heap.size + 1]? = _ from HX4.out)).1).trans HX4.out
  have hl5 : Boxed W5 w3.heap.size 32 (.slice Al t.nodes.length cl) := (hb5.block _ (Array.getElem?_eq_some_iff.1 (show W4.heap[w3.heap.size]? = _ from HL4.out)).1).trans HL4.out
  have hs5 : SlAt W5 W5.heap.size Al cl t.nodes := (HS4.out.below hb5).more hb5.size
  have HW5 := Lib.hid hw5
  have HN5 := Lib.hid hn5
  have HX5 := Lib.hid hx5
  have HL5 := Lib.hid hl5
  have HS5 := Lib.hid hs5
  clear hb5 hw5 hn5 hx5 hl5 hs5
  go_wp2
  rw [HC.out]
  exact tells_from8 _ _ _ _ _ _ _ _ _ _ _ _ _ _ _ _ _ _ _ _ _ _ _ _ _ _ _ _ _ _ _ _ _ _ _ _ _ _ _ _ _ _ _ _ _ _ _ _ _ _ _ _ _ _ _ _ _ _ _ _ _ _ _ _ _ _ _ _ _ _ _ _ _ _ _ _ _ _ _ _ _ _ _ _ _ _ _ _ _ _ _ _ _ _ _ _ _ _ _ _ _ _ _ _ _ _ _ _ _ _ _ _ _ _ _ _ _ _ _ _ _ _ _ _ _ _ _ _ _ _ _ _ _ _ _ _ _ _ _ _ _ _ _ _ _ _ _ _ _ _ _ _ _ _ _ _ _ _ _ _ _ _ w.heap.size w.heap.size w3.heap.size c al cl Al w W5 N t A HW5.out HN5.out _ HX5.out HL5.out HS5.out HP3.out (Nat.le_refl _) HAL.out HN.out HD.out HS.out HZ.out _ (by
    intro u0 u1 u3 u4 u5 u6 u7 u8 u9 u10 u11 u12 u13 u14 u15 u16 u17 u18 u19 u20 u21 u22 u23 u24 u25 u26 u27 u28 u29 u30 u31 u32 u33 u34 u35 u36 u37 u38 u39 u40 u41 u42 u43 u44 u45 u46 u47 u48 u49 u50 u51 u52 u53 u54 u55 u56 u57 u58 u59 u60 u61 u62 u63 u64 u65 u66 u67 u68 u69 u70 u71 u72 u73 u74 u75 u76 u77 u78 u79 u80 u81 u82 u83 u84 u85 u86 u87 u88 u89 u90 u91 u92 u93 u94 u95 u96 u97 u98 u99 u100 u101 u102 u103 u104 u105 u106 u107 u108 u109 u110 u111 u112 u113 u114 u115 u116 u117 u118 u119 u120 u121 u122 u123 u124 u125 u126 u127 u128 u129 u130 u131 u132 u133 u134 u135 u136 u137 u138 u139 u140 u141 u142 u143 u144 u145 u146 u147 u148 u149 u150 u151 u152 u153 u154 u155 u156 u157 u158 u159 u160 u161 u162 u163 u164 ds' W6 pn h0 h1 h2 h3
    exact tells_leaves (b0 := w.heap.size) (a0 := pn) (by omega) h1 h2 h3 rfl)
end Go.Proofs.YtggpffipijoddaaDoor
