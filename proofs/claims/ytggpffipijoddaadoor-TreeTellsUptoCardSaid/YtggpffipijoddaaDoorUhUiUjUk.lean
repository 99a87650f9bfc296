/- TreeTells: the range over all nodes, whole. TreeTells: a round of the range over the areas. TreeTells: the range over the areas, whole. TreeTells: the last loop, over the names. -/
import Derived.Test.YtggpffipijoddaaDoorUdUeUfUg
namespace Go.Proofs.YtggpffipijoddaaDoor
open Go Go.RowKit Go.Shelf
attribute [local go_sem] Oper.semAt_some

/-- what a later world keeps that turns no cells. -/
theorem cell_held {W W' : World} {row : Option Nat} (hg : W.grownBy W' row) (hr : ∀ r, row = some r → ∃ o : Obj, W.heap[r]? = some o ∧ o.isCells = false) (p : Addr) (v : Value) (h : W.cell? p = some v) : W'.cell? p = some v := by
  by_cases he : row = some p.block
  · obtain ⟨o, ho, hn⟩ := hr _ he
    unfold World.cell? at h
    rw [ho] at h
    cases o <;> first | (cases hn; done) | (cases h; done)
  · by_cases hp : p.block < W.heap.size
    · rw [World.cell?_of_block (hg.block p.block hp (fun e => he e.symm))]; exact h
    · unfold World.cell? at h
      rw [Array.getElem?_eq_none (by omega)] at h
      cases h

set_option maxRecDepth 100000 in
set_option maxHeartbeats 2000000 in
theorem tells_range (u0 u1 u4 u5 u9 u10 u11 u12 u13 u14 u15 u16 u17 u18 u19 u20 u21 u22 u23 u24 u25 u26 u27 u28 u29 u30 u31 u32 u33 u34 u35 u36 u37 u38 u39 u40 u41 u42 u43 u44 u45 u46 u47 u48 u49 u50 u51 u52 u53 u54 u55 u57 u58 u59 u60 u61 u62 u63 u64 u65 u66 u67 u68 u69 u70 u71 u72 u73 u74 u75 u76 u77 u78 u79 u80 u81 u82 u83 u84 u85 u86 u87 u88 u89 u90 u91 u92 u93 u94 u95 u96 u97 u98 u99 u100 u101 u102 u103 u104 u105 u106 u107 u108 u109 u110 u111 u112 u113 u114 u115 u116 u117 u118 u119 u120 u121 u122 u123 u124 u125 u126 u127 u128 u129 u130 u131 u132 u133 u134 u135 u136 u137 u138 u139 u140 u141 u142 u143 u144 u145 u146 u147 u148 u149 u150 u151 u152 u153 u154 u155 u156 u157 u158 u159 u160 u161 u162 u163 u164 : Value) (B0 b0 p3 pk pw pn r c : Nat) (w W : World) (N : Array Value) (t : Tr) (A : Option Addr) (ds : List Deferred) (hri : RI B0 b0 p3 pk pw pn w N t.nodes ds [] W) (hkw : pk < pw) (hwn : pw < pn) (hrk : r < pk) (hBr : B0 ≤ r) (hr : W.heap[r]? = some (.cells (nodeA t.d A t.l.length c) 34)) (hd : t.d.ok) (hs : SlAt w B0 A c t.l)
    (hz : t.size ≤ 1000) (Q : Exit → Act → World → Prop) (hQ : ∀ D W' (ys : List Yt), ys.map (·.1) = t.nodes → RI B0 b0 p3 pk pw pn w N t.nodes (markOf D :: ds) ys W' → Below pk W W' → Q .normal ⟨#[u0, u1, .pointer (some ⟨b0 + 1, 0, none⟩), .pointer (some ⟨p3, 0, none⟩), u4, u5, .pointer (some ⟨pk, 0, none⟩), .pointer (some ⟨pw, 0, none⟩), .pointer (some ⟨pn, 0, none⟩), u9, u10, u11, u12, u13, u14, u15, u16, u17, u18, u19, u20, u21, u22, u23, u24, u25, u26, u27, u28, u29, u30, u31, u32, u33, u34, u35, u36, u37, u38, u39, u40, u41, u42, u43, u44, u45, u46, u47, u48, u49, u50, u51, u52, u53, u54, u55, .func (.func 39) #[] #[.pointer (some ⟨r, 0, none⟩)], u57, u58, u59, u60, u61, u62, u63, u64, u65, u66, u67, u68, u69, u70, u71, u72, u73, u74, u75, u76, u77, u78, u79, u80, u81, u82, u83, u84, u85, u86, u87, u88, u89, u90, u91, u92, u93, u94, u95, u96, u97, u98, u99, u100, u101, u102, u103, u104, u105, u106, u107, u108, u109, u110, u111, u112, u113, u114, u115, u116, u117, u118, u119, u120, u121, u122, u123, u124, u125, u126, u127, u128, u129, u130, u131, u132, u133, u134, u135, u136, u137, u138, u139, u140, u141, u142, u143, u144, u145, u146, u147, u148, u149, u150, u151, u152, u153, u154, u155, u156, u157, u158, u159, u160, u161, u162, u163, u164], (markOf D :: ds)⟩ W') :
    (rf1 tellsC).wp Tryd.prog Q ⟨#[u0, u1, .pointer (some ⟨b0 + 1, 0, none⟩), .pointer (some ⟨p3, 0, none⟩), u4, u5, .pointer (some ⟨pk, 0, none⟩), .pointer (some ⟨pw, 0, none⟩), .pointer (some ⟨pn, 0, none⟩), u9, u10, u11, u12, u13, u14, u15, u16, u17, u18, u19, u20, u21, u22, u23, u24, u25, u26, u27, u28, u29, u30, u31, u32, u33, u34, u35, u36, u37, u38, u39, u40, u41, u42, u43, u44, u45, u46, u47, u48, u49, u50, u51, u52, u53, u54, u55, .func (.func 39) #[] #[.pointer (some ⟨r, 0, none⟩)], u57, u58, u59, u60, u61, u62, u63, u64, u65, u66, u67, u68, u69, u70, u71, u72, u73, u74, u75, u76, u77, u78, u79, u80, u81, u82, u83, u84, u85, u86, u87, u88, u89, u90, u91, u92, u93, u94, u95, u96, u97, u98, u99, u100, u101, u102, u103, u104, u105, u106, u107, u108, u109, u110, u111, u112, u113, u114, u115, u116, u117, u118, u119, u120, u121, u122, u123, u124, u125, u126, u127, u128, u129, u130, u131, u132, u133, u134, u135, u136, u137, u138, u139, u140, u141, u142, u143, u144, u145, u146, u147, u148, u149, u150, u151, u152, u153, u154, u155, u156, u157, u158, u159, u160, u161, u162, u163, u164], ds⟩ W := by
  dsimp only
  dsimp only at hQ
  refine (wpIn_wide (n := 5)).1 ?_
  conv => arg 4; whnf
  have hpl := hri.lt
  have hrl : r < W.heap.size := (Array.getElem?_eq_some_iff.1 hr).1
  have hLz : t.nodes.length ≤ 1000 := by have := nodes_len t; omega
  have htz : t.nodes.length = t.size := nodes_len t
  obtain ⟨at_, rfl, hab, hao, hat⟩ := NodeAt.addr t r 0 (NodeAt.more (show r + 1 ≤ pk by omega) t _ _ (boxed_node hd hs hBr hri.tb.below hr))
  have hpw : pk ≤ W.heap.size := hri.tb.low.2.2.1
  have hpe : pk - 1 + 1 = pk := by omega
  have hseq := all1_seq W pk at_ hat hpw (by omega)
  rw [hab, hao] at hseq
  obtain ⟨kz, hkz⟩ : ∃ kz, kz = at_.tr.size := ⟨_, rfl⟩
  obtain ⟨L, hL⟩ : ∃ L, L = at_.tr.nodes := ⟨_, rfl⟩
  rw [← hkz, ← hL] at hseq
  rw [← hL] at hQ hLz hri
  have HRI := Lib.hid hri
  have HQ := Lib.hid hQ
  clear hri hQ hkz hL hat hd hs hr hz hab hao htz
  have hml : ∀ d ∈ ds, ∀ D, d = markOf D → D < W.heap.size := HRI.out.marks.lt
  refine range_V (n := 5) (n₀ := pk) (by omega) (gf := 39) (lb := #[.pointer (some ⟨r, 0, none⟩)]) rfl (enters_of Tryd.func39 (by kernel_rfl) rfl)
    hseq (by omega) (Below.refl _ _) (fun _ => rfl)
    (fun (ys : List Yt) W' => RI B0 b0 p3 pk pw pn w N L ds ys W' ∧ Below pk W W')
    (fun _ (ys : List Yt) _ => ¬ ys.map (fun y : Yt => y.1) <+: L)
    (fun s A1 B1 row h hg hr1 => ⟨RI.abides hpl hkw hwn hml s A1 B1 row h.1 hg hr1, h.2.grown hg (by have := h.2.size; omega) (fun k e => by have := (hr1 k e).1; omega)⟩)
    (fun _ _ _ _ _ h _ _ => h)
    ⟨HRI.out, Below.refl _ _⟩
    (fun y a' W' => ∃ q, a' = ⟨#[u0, u1, .pointer (some ⟨b0 + 1, 0, none⟩), .pointer (some ⟨p3, 0, none⟩), u4, u5, .pointer (some ⟨pk, 0, none⟩), .pointer (some ⟨pw, 0, none⟩), .pointer (some ⟨pn, 0, none⟩), .pointer (some ⟨q, 0, none⟩), u10, u11, u12, u13, u14, u15, u16, u17, u18, u19, u20, u21, u22, u23, u24, u25, u26, u27, u28, u29, u30, u31, u32, u33, u34, u35, u36, u37, u38, u39, u40, u41, u42, u43, u44, u45, u46, u47, u48, u49, u50, u51, u52, u53, u54, u55, .func (.func 39) #[] #[.pointer (some ⟨r, 0, none⟩)], nodeV y.1.d y.2.1 y.1.l.length y.2.2, u58, u59, u60, u61, u62, u63, u64, u65, u66, u67, u68, u69, u70, u71, u72, u73, u74, u75, u76, u77, u78, u79, u80, u81, u82, u83, u84, u85, u86, u87, u88, u89, u90, u91, u92, u93, u94, u95, u96, u97, u98, u99, u100, u101, u102, u103, u104, u105, u106, u107, u108, u109, u110, u111, u112, u113, u114, u115, u116, u117, u118, u119, u120, u121, u122, u123, u124, u125, u126, u127, u128, u129, u130, u131, u132, u133, u134, u135, u136, u137, u138, u139, u140, u141, u142, u143, u144, u145, u146, u147, u148, u149, u150, u151, u152, u153, u154, u155, u156, u157, u158, u159, u160, u161, u162, u163, u164], []⟩ ∧ W'.heap[q]? = some (.cells (nodeA y.1.d y.2.1 y.1.l.length y.2.2) 34) ∧ y.1.d.ok ∧ SlAt W' W'.heap.size y.2.1 y.2.2 y.1.l)
    (fun y a' s A1 B1 row h hg hr1 => by
      obtain ⟨q, h1, h2, h3, h4⟩ := h
      refine ⟨q, h1, (hg.block q (Array.getElem?_eq_some_iff.1 h2).1 (fun e => ?_)).trans h2, h3, (h4.keepS (fun p v _ hc => cell_held hg (fun r e => (hr1 r e).2) p v hc)).more hg.size⟩
      obtain ⟨-, o, ho, hn⟩ := hr1 q e.symm
      rw [h2] at ho; cases ho; cases hn)
    ?assign ?body ?done ?stop
  case assign =>
    rintro l pre y W1 K ⟨hI, hbI⟩ hV hK
    obtain ⟨hyd, hys⟩ := hV
    have hN1 : (nodeA y.1.d y.2.1 y.1.l.length y.2.2).all (·.oneCell') = true := all_oneCell_toArray (fun u hu => head_one y.1.d y.2.1 y.1.l.length y.2.2 u hu)
    dsimp only [encY]
    simp only [List.zip_toArray, List.zip_cons_cons, List.zip_nil_right, List.foldl_toArray, List.foldl_cons, List.foldl_nil, List.setIfInBounds_toArray, List.set_cons_succ, List.set_cons_zero]
    have HK := Lib.hid hK
    clear hK
    refine wpIn_region_lit (wpListIn_of (by rintro ⟨_, _, h⟩; exact h) _ _ _ (by intro o ho c hc; simp only [List.mem_cons, List.not_mem_nil, or_false] at ho; rcases ho with rfl | rfl <;> cases hc) ?_)
    refine wpList_nodeVar rfl rfl W1.heap.size rfl ?_
    refine wpList_storeFresh (w := W1) rfl 34 _ _ rfl W1.heap.size rfl (nodeA y.1.d y.2.1 y.1.l.length y.2.2) rfl rfl infN rfl hN1 ?_
    have hbe : Below W1.heap.size W1 (W1.alloc (.cells (nodeA y.1.d y.2.1 y.1.l.length y.2.2) 34)) := (Below.refl _ _).alloc (Nat.le_refl _) _
    have hlt := hI.lt
    exact HK.out _ _ ⟨by rw [World.size_alloc]; omega, fun k o _ h _ => (heapOld _ _ _ (Array.getElem?_eq_some_iff.1 h).1).trans h⟩ (KeepTs.alloc _ (by omega)) ⟨hI.below hbe, hbI.trans (hbe.mono (by have := hbI.size; omega))⟩ ⟨W1.heap.size, rfl, heap_alloc_new _ _, hyd, (hys.below hbe).more hbe.size⟩
  case body =>
    rintro l pre y a' W1 hl - ⟨hI, hbI⟩ ⟨q, rfl, hq, hyd, hys⟩ hlen
    have hbody := tells_body l (5 - 1 - 1) u0 u1 u4 u5 u10 u11 u12 u13 u14 u15 u16 u17 u18 u19 u20 u21 u22 u23 u24 u25 u26 u27 u28 u29 u30 u31 u32 u33 u34 u35 u36 u37 u38 u39 u40 u41 u42 u43 u44 u45 u46 u47 u48 u49 u50 u51 u52 u53 u54 u55 (.func (.func 39) #[] #[.pointer (some ⟨r, 0, none⟩)]) (nodeV y.1.d y.2.1 y.1.l.length y.2.2) u58 u59 u60 u61 u62 u63 u64 u65 u66 u67 u68 u69 u70 u71 u72 u73 u74 u75 u76 u77 u78 u79 u80 u81 u82 u83 u84 u85 u86 u87 u88 u89 u90 u91 u92 u93 u94 u95 u96 u97 u98 u99 u100 u101 u102 u103 u104 u105 u106 u107 u108 u109 u110 u111 u112 u113 u114 u115 u116 u117 u118 u119 u120 u121 u122 u123 u124 u125 u126 u127 u128 u129 u130 u131 u132 u133 u134 u135 u136 u137 u138 u139 u140 u141 u142 u143 u144 u145 u146 u147 u148 u149 u150 u151 u152 u153 u154 u155 u156 u157 u158 u159 u160 u161 u162 u163 u164 q B0 b0 p3 pk pw pn (pk - 1) W.heap.size w W1 N L ds pre y hI hkw hwn (by omega) hpl hq hyd hys hLz
    rw [hpe] at hbody
    refine wpIn_mono hbody ?_
    rintro e a2 W2 hp
    cases e with
    | normal =>
      obtain ⟨hk1, hk2, hk3⟩ := hp
      exact ⟨hk1, hk2, hk3, hbI.trans hk2.below⟩
    | ret => exact hp
    | exit id => exact hp
    | goto t => exact hp
    | panic ch => exact hp
    | outgrown => exact hp
  case done =>
    rintro D xs W1 hD hS ⟨hI, hbI⟩ hK
    exact HQ.out D W1 xs hS ⟨hI.tb, hI.cnt, hI.want, hI.names, hI.pre, hI.marks.cons hml hK (by omega) hD, hI.lt⟩ hbI
  case stop => exact fun D c pre W1 hD hS hI _ => (hI hS).elim
end Go.Proofs.YtggpffipijoddaaDoor
namespace Go.Proofs.YtggpffipijoddaaDoor
open Go Go.RowKit Go.Shelf
attribute [local go_sem] Oper.semAt_some

/-- where the range over the areas stands. -/
structure RK (B0 b0 p3 pk pw pn : Nat) (w : World) (N : Array Value) (ln : List Tr) (L : List (Cn × Cn)) (nm : List ByteArray) (ds : List Deferred) (pre : List (Cn × Cn)) (W : World) : Prop where
  tb : TB B0 b0 p3 pk w N ln W
  cnt : Boxed W pk 3 (.int .i64 pre.length)
  want : Wnt W pw pn L
  names : Nms W pn nm
  pre : pre <+: L
  marks : Marks (pn + 1) ds W
  lt : pn < W.heap.size
theorem RK.abides {B0 b0 p3 pk pw pn B : Nat} {w : World} {N : Array Value} {ln : List Tr} {L : List (Cn × Cn)} {nm : List ByteArray} {ds : List Deferred} (hB : pn < B) (hkw : pk < pw) (hwn : pw < pn) (hl : ∀ d ∈ ds, ∀ D, d = markOf D → D < B) :
    AbidesN [85, 77] B (fun (pre : List (Cn × Cn)) W => RK B0 b0 p3 pk pw pn w N ln L nm ds pre W) := by
  intro ys W W' row h hg hr
  have hc : Ch (fun j => row = some j) W W' := .grown hg (fun _ e => e)
  have hlo : ∀ j, row = some j → B ≤ j := fun j e => (hr j e).1
  have hty : ∀ j cs (T : TypeId), T ≠ 85 → T ≠ 77 → row = some j → W.heap[j]? = some (.cells cs T (0, 0)) → False := by
    intro j cs T h1 h2 e hcs
    rcases (hr j e).2 with ⟨T', hT', cs', fz, hc'⟩ | ⟨o, ho, hn⟩
    · rw [hcs] at hc'
      simp only [Option.some.injEq, Obj.cells.injEq] at hc'
      simp only [List.mem_cons, List.not_mem_nil, or_false] at hT'
      have e2 := hc'.2.1
      rcases hT' with rfl | rfl
      · exact h1 e2
      · exact h2 e2
    · rw [hcs] at ho; cases ho; cases hn
  have hne : ∀ k, k ≤ pn → ¬ (row = some k) := fun k hk e => by have := hlo k e; omega
  exact ⟨h.tb.ch hc (fun j e => by have := hlo j e; have := h.tb.low; omega), hc.boxed h.cnt (hne _ (by omega)), h.want.ch hc (hne _ (by omega)) (fun j cs e hcs _ => hty j cs _ (by decide) (by decide) e hcs), h.names.ch hc (hne _ (Nat.le_refl _)) (fun j cs e hcs _ => hty j cs _ (by decide) (by decide) e hcs), h.pre, h.marks.low hl hg hlo, Nat.lt_of_lt_of_le h.lt hg.size⟩
theorem RK.below {B0 b0 p3 pk pw pn : Nat} {w W W' : World} {N : Array Value} {ln : List Tr} {L : List (Cn × Cn)} {nm : List ByteArray} {ds : List Deferred} {pre : List (Cn × Cn)} (h : RK B0 b0 p3 pk pw pn w N ln L nm ds pre W) (hb : Below W.heap.size W W') : RK B0 b0 p3 pk pw pn w N ln L nm ds pre W' := by
  have hc : Ch (fun _ => False) W W' := .below hb
  exact ⟨h.tb.ch hc (fun _ e => e.elim), hc.boxed h.cnt (fun e => e), h.want.ch hc (fun e => e) (fun _ _ e _ _ => e), h.names.ch hc (fun e => e) (fun _ _ e _ _ => e), h.pre, h.marks.below hb, Nat.lt_of_lt_of_le h.lt hb.size⟩
/-- the counter turns. -/
theorem RK.step {B0 b0 p3 pk pw pn : Nat} {w W W' : World} {N : Array Value} {ln : List Tr} {L : List (Cn × Cn)} {nm : List ByteArray} {ds : List Deferred} {pre pre' : List (Cn × Cn)} (h : RK B0 b0 p3 pk pw pn w N ln L nm ds pre W) (hc : Ch (fun j => j = pk) W W') (hkw : pk < pw) (hkn : pk < pn) (hp : pre' <+: L) (hk : Boxed W' pk 3 (.int .i64 pre'.length)) : RK B0 b0 p3 pk pw pn w N ln L nm ds pre' W' :=
  ⟨h.tb.ch hc (fun j e => by omega), hk, h.want.ch hc (by omega) (fun j cs e _ _ => by omega), h.names.ch hc (by omega) (fun j cs e _ _ => by omega), hp, h.marks.keep (fun k hk hd => by
    by_cases e : k = pk
    · omega
    · exact (hc.same k (Array.getElem?_eq_some_iff.1 hd).1 e).trans hd), Nat.lt_of_lt_of_le h.lt hc.size⟩
/-- the slice of what was gathered. -/
theorem Wnt.slice {W : World} {pw pn : Nat} {L : List (Cn × Cn)} (h : Wnt W pw pn L) : ∃ (Aa : Option Addr) (cap : Nat), Boxed W pw 43 (.slice Aa L.length cap) ∧ ∀ i (hi : i < L.length), ∃ g, Aa = some ⟨g, 0, none⟩ ∧ L.length ≤ cap ∧ cap ≤ 9223372036854775807 ∧ W.rangeAt g (i * 12) (arC L[i]) := by
  obtain ⟨v, h1, h2⟩ := h
  rcases h2.2 with ⟨rfl, h3⟩ | ⟨g, cap, cur, rfl, h3, h4, h5, h6, -⟩
  · refine ⟨none, 0, by rw [h3]; exact h1, fun i hi => by omega⟩
  · refine ⟨_, cap, h1, fun i hi => ⟨g, rfl, h5, by have := h6; unfold maxLen at this; omega, fun j u hu => ?_⟩⟩
    have hj : j < 12 := (List.getElem?_eq_some_iff.1 hu).1
    have := h2.cellAt (i * 12 + j) (by omega)
    rw [this, flat_at L i hi j hj]; exact hu

set_option maxRecDepth 100000 in
set_option maxHeartbeats 2000000 in
theorem tells2_over (l n : Nat) (u0 u1 u3 u4 u5 u8 u9 u10 u11 u13 u14 u15 u16 u17 u18 u19 u20 u21 u22 u23 u24 u25 u26 u27 u28 u29 u30 u31 u32 u33 u34 u35 u36 u37 u38 u39 u40 u41 u42 u43 u44 u45 u46 u47 u48 u49 u50 u51 u52 u53 u54 u55 u56 u57 u58 u59 u60 u61 u62 u63 u64 u65 u66 u67 u68 u69 u70 u71 u72 u73 u74 u75 u76 u77 u78 u79 u80 u81 u82 u83 u84 u85 u86 u87 u88 u89 u90 u91 u92 u93 u94 u95 u96 u97 u98 u99 u100 u101 u102 u103 u104 u105 u106 u107 u108 u109 u110 u111 u112 u113 u114 u115 u116 u117 u118 u119 u120 u121 u122 u123 u124 u125 u126 u127 u128 u129 u130 u131 u132 u133 u134 u135 u136 u137 u138 u139 u140 u141 u142 u143 u144 u145 u146 u147 u148 u149 u150 u151 u152 u153 u154 u155 u156 u157 u158 u159 u160 u161 u162 u163 u164 : Value) (q B0 b0 p3 kb a0 nb r B : Nat) (w W : World) (N : Array Value) (lnd : List Tr) (nm : List ByteArray) (L pre : List (Cn × Cn)) (x : Cn × Cn) (ds : List Deferred) (hrk : RK B0 b0 p3 kb a0 nb w N lnd L nm ds pre W) (hka : kb < a0) (_han : a0 < nb) (_hrb : r < kb) (hq : W.heap[q]? = some (.cells (arC x).toArray 31)) (hz : L.length ≤ 1000) (hkB : nb < B) (hge : L.length ≤ pre.length) :
    (rfBody (rf1 (fromRegion 29 tellsC))).wpIn (Fence.wide.inRound l) n Tryd.prog (ownPostG B (KeepTs (r + 1) [85, 77]) (fun (pre : List (Cn × Cn)) W => RK B0 b0 p3 kb a0 nb w N lnd L nm ds pre W) (fun _ pre _ => ¬ pre <+: L) (pre ++ [x]) W) ⟨#[u0, u1, .pointer (some ⟨b0 + 1, 0, none⟩), u3, u4, u5, .pointer (some ⟨kb, 0, none⟩), .pointer (some ⟨a0, 0, none⟩), u8, u9, u10, u11, .pointer (some ⟨q, 0, none⟩), u13, u14, u15, u16, u17, u18, u19, u20, u21, u22, u23, u24, u25, u26, u27, u28, u29, u30, u31, u32, u33, u34, u35, u36, u37, u38, u39, u40, u41, u42, u43, u44, u45, u46, u47, u48, u49, u50, u51, u52, u53, u54, u55, u56, u57, u58, u59, u60, u61, u62, u63, u64, u65, u66, u67, u68, u69, u70, u71, u72, u73, u74, u75, u76, u77, u78, u79, u80, u81, u82, u83, u84, u85, u86, u87, u88, u89, u90, u91, u92, u93, u94, u95, u96, u97, u98, u99, u100, u101, u102, u103, u104, u105, u106, u107, u108, u109, u110, u111, u112, u113, u114, u115, u116, u117, u118, u119, u120, u121, u122, u123, u124, u125, u126, u127, u128, u129, u130, u131, u132, u133, u134, u135, u136, u137, u138, u139, u140, u141, u142, u143, u144, u145, u146, u147, u148, u149, u150, u151, u152, u153, u154, u155, u156, u157, u158, u159, u160, u161, u162, u163, u164], []⟩ W := by
  dsimp only
  generalize hf0 : Act.mk _ _ = f0
  obtain ⟨hb, hb2, hb3, hB0⟩ := hrk.tb.low
  have hk := hrk.cnt
  have hpre := hrk.pre
  conv => arg 4; whnf
  have hlen := hpre.length_le
  obtain ⟨Aa, cap, hbx, hrow⟩ := Wnt.slice hrk.want
  have hbxl := hrk.lt
  have HROW := Lib.hid hrow
  have HTA := Lib.hid hrk
  have HKB := Lib.hid hk
  have HPR := Lib.hid hpre
  have hck := hk.cell
  have hca := hbx.cell
  obtain ⟨X, hX⟩ : ∃ X, X = arC x := ⟨_, rfl⟩
  have hXi : (Tryd.prog.info? 31).map (·.size) = some X.length := by rw [hX]; exact infA
  have hXr : W.rangeAt q 0 X := by rw [hX]; exact area_range hq
  have HXI := Lib.hid hXi
  have HXR := Lib.hid hXr
  have HX := Lib.hid hX
  obtain ⟨ln, hln⟩ : ∃ ln, ln = L.length := ⟨_, rfl⟩
  obtain ⟨pn, hpn⟩ : ∃ pn, pn = pre.length := ⟨_, rfl⟩
  have hlm : ln ≤ 9223372036854775807 := by omega
  have hnp : ¬ (pre ++ [x]) <+: L := fun h => by obtain ⟨h1, -⟩ := (pre_snoc hpre x).1 h; omega
  have HNP := Lib.hid hnp
  rw [← hln] at hge hca
  rw [← hpn] at hge hck
  clear hnp
  clear hrk hk hpre hbx hXi hXr hX hq hln hpn hlen hz hrow hbxl
  have hge0 : decide (ln ≤ pn) = true := by simpa using hge
  clear hge
  have hge := hge0
  clear hge0
  refine wpIn_block ?_
  refine wpIn_seq ?_
  refine wpIn_seq ?_
  refine wpIn_region_stillK (by kernel_rfl) (by kernel_rfl) (by rintro ⟨_, _, h⟩; exact h) (by intro o ho c hc; simp only [List.mem_cons, List.not_mem_nil, or_false] at ho; rcases ho with rfl | rfl | rfl | rfl | rfl | rfl | rfl | rfl | rfl | rfl | rfl | rfl <;> cases hc) (fun Qx hQx => ?_)
  refine still_one (.int .i64 pn) (by rw [← hf0]; kernel_rfl) (ld_int _ rfl ⟨kb, 0, none⟩ (by rw [← hf0]; kernel_rfl) _ hck) (fun f1 h1 => ?_)
  refine still_one (.slice Aa ln cap) (by rw [h1, ← hf0]; kernel_rfl) (ld_sl _ rfl ⟨a0, 0, none⟩ (by rw [h1, ← hf0]; kernel_rfl) _ hca) (fun f2 h2 => ?_)
  refine still_one (.int .i64 ln) (by rw [h2, h1, ← hf0]; kernel_rfl) (len_at _ rfl Aa ln cap (by rw [h2, h1, ← hf0]; kernel_rfl) rfl hlm) (fun f3 h3 => ?_)
  refine still_one (.bool true) (by rw [h3, h2, h1, ← hf0]; kernel_rfl) ((ge_at _ _ rfl pn ln (by rw [h3, h2, h1, ← hf0]; kernel_rfl) (by rw [h3, h2, h1, ← hf0]; kernel_rfl)).trans (by rw [hge])) (fun f4 h4 => ?_)
  refine still_one (.bool true) (by rw [h4, h3, h2, h1, ← hf0]; kernel_rfl) (by rw [h4, h3, h2, h1, ← hf0]; kernel_rfl) (fun f5 h5 => ?_)
  refine still_off (by rw [h5, h4, h3, h2, h1, ← hf0]; kernel_rfl) (fun f6 h6 => ?_)
  refine still_off (by rw [h6, h5, h4, h3, h2, h1, ← hf0]; kernel_rfl) (fun f7 h7 => ?_)
  refine still_off (by rw [h7, h6, h5, h4, h3, h2, h1, ← hf0]; kernel_rfl) (fun f8 h8 => ?_)
  refine still_off (by rw [h8, h7, h6, h5, h4, h3, h2, h1, ← hf0]; kernel_rfl) (fun f9 h9 => ?_)
  refine still_off (by rw [h9, h8, h7, h6, h5, h4, h3, h2, h1, ← hf0]; kernel_rfl) (fun f10 h10 => ?_)
  refine still_off (by rw [h10, h9, h8, h7, h6, h5, h4, h3, h2, h1, ← hf0]; kernel_rfl) (fun f11 h11 => ?_)
  refine still_one (.bool true) (by rw [h11, h10, h9, h8, h7, h6, h5, h4, h3, h2, h1, ← hf0]; kernel_rfl) (by rw [h11, h10, h9, h8, h7, h6, h5, h4, h3, h2, h1, ← hf0]; kernel_rfl) (fun f12 h12 => ?_)
  refine wpStill_nil (hQx _ ?_)
  have hf12 : f12 = ⟨#[u0, u1, .pointer (some ⟨b0 + 1, 0, none⟩), u3, u4, u5, .pointer (some ⟨kb, 0, none⟩), .pointer (some ⟨a0, 0, none⟩), u8, u9, u10, u11, .pointer (some ⟨q, 0, none⟩), u13, u14, u15, u16, u17, u18, u19, u20, u21, u22, u23, u24, u25, u26, u27, u28, u29, u30, u31, u32, u33, u34, u35, u36, u37, u38, u39, u40, u41, u42, u43, u44, u45, u46, u47, u48, u49, u50, u51, u52, u53, u54, u55, u56, u57, u58, u59, u60, u61, u62, u63, u64, u65, u66, u67, u68, u69, u70, u71, u72, u73, u74, u75, u76, u77, u78, u79, u80, u81, u82, u83, u84, u85, u86, u87, u88, u89, u90, u91, u92, u93, u94, u95, u96, u97, u98, u99, u100, u101, u102, u103, u104, u105, u106, u107, u108, u109, u110, u111, u112, u113, u114, u115, u116, u117, u118, u119, u120, u121, u122, .int .i64 pn, .slice Aa ln cap, .int .i64 ln, .bool true, .bool true, undef, undef, undef, undef, undef, undef, .bool true, u135, u136, u137, u138, u139, u140, u141, u142, u143, u144, u145, u146, u147, u148, u149, u150, u151, u152, u153, u154, u155, u156, u157, u158, u159, u160, u161, u162, u163, u164], []⟩ := by rw [h12, h11, h10, h9, h8, h7, h6, h5, h4, h3, h2, h1, ← hf0]; kernel_rfl
  dsimp only at hf12
  rw [hf12]
  clear hf12 h12 h11 h10 h9 h8 h7 h6 h5 h4 h3 h2 h1 hf0 hQx f12 f11 f10 f9 f8 f7 f6 f5 f4 f3 f2 f1 f0 Qx
  obtain ⟨Wd, hWd⟩ : ∃ Wd, Wd = W.drew := ⟨_, rfl⟩
  change Code.wpIn _ _ _ _ _ _ (World.drew W)
  rw [← hWd]
  obtain ⟨u, hu⟩ := HTA.out.tb.res
  have hu1 : Boxed Wd (b0 + 1) 4 u := by rw [hWd]; exact hu
  have huc := hu1.cell
  have huf := hu1.frozen
  have HWD := Lib.hid hWd
  clear hu hu1 hWd hck hca
  gi_wp2
  refine ⟨?_, HNP.out⟩
  have e : KeepsFrom B W Wd := by rw [HWD.out]; exact ⟨Nat.le_refl _, fun _ _ _ h _ => h⟩
  exact e.trans (KeepsFrom.of_grownBy (grownBy_setCell' _ _ _) (fun j e => by cases e; omega))

set_option maxRecDepth 100000 in
set_option maxHeartbeats 2000000 in
theorem tells2_other (l n : Nat) (u0 u1 u3 u4 u5 u8 u9 u10 u11 u13 u14 u15 u16 u17 u18 u19 u20 u21 u22 u23 u24 u25 u26 u27 u28 u29 u30 u31 u32 u33 u34 u35 u36 u37 u38 u39 u40 u41 u42 u43 u44 u45 u46 u47 u48 u49 u50 u51 u52 u53 u54 u55 u56 u57 u58 u59 u60 u61 u62 u63 u64 u65 u66 u67 u68 u69 u70 u71 u72 u73 u74 u75 u76 u77 u78 u79 u80 u81 u82 u83 u84 u85 u86 u87 u88 u89 u90 u91 u92 u93 u94 u95 u96 u97 u98 u99 u100 u101 u102 u103 u104 u105 u106 u107 u108 u109 u110 u111 u112 u113 u114 u115 u116 u117 u118 u119 u120 u121 u122 u123 u124 u125 u126 u127 u128 u129 u130 u131 u132 u133 u134 u135 u136 u137 u138 u139 u140 u141 u142 u143 u144 u145 u146 u147 u148 u149 u150 u151 u152 u153 u154 u155 u156 u157 u158 u159 u160 u161 u162 u163 u164 : Value) (q B0 b0 p3 kb a0 nb r B : Nat) (w W : World) (N : Array Value) (lnd : List Tr) (nm : List ByteArray) (L pre : List (Cn × Cn)) (x : Cn × Cn) (ds : List Deferred) (hrk : RK B0 b0 p3 kb a0 nb w N lnd L nm ds pre W) (hka : kb < a0) (_han : a0 < nb) (_hrb : r < kb) (hq : W.heap[q]? = some (.cells (arC x).toArray 31)) (hz : L.length ≤ 1000) (hkB : nb < B) (hlt : pre.length < L.length) (hne : ¬ x = L[pre.length]) :
    (rfBody (rf1 (fromRegion 29 tellsC))).wpIn (Fence.wide.inRound l) n Tryd.prog (ownPostG B (KeepTs (r + 1) [85, 77]) (fun (pre : List (Cn × Cn)) W => RK B0 b0 p3 kb a0 nb w N lnd L nm ds pre W) (fun _ pre _ => ¬ pre <+: L) (pre ++ [x]) W) ⟨#[u0, u1, .pointer (some ⟨b0 + 1, 0, none⟩), u3, u4, u5, .pointer (some ⟨kb, 0, none⟩), .pointer (some ⟨a0, 0, none⟩), u8, u9, u10, u11, .pointer (some ⟨q, 0, none⟩), u13, u14, u15, u16, u17, u18, u19, u20, u21, u22, u23, u24, u25, u26, u27, u28, u29, u30, u31, u32, u33, u34, u35, u36, u37, u38, u39, u40, u41, u42, u43, u44, u45, u46, u47, u48, u49, u50, u51, u52, u53, u54, u55, u56, u57, u58, u59, u60, u61, u62, u63, u64, u65, u66, u67, u68, u69, u70, u71, u72, u73, u74, u75, u76, u77, u78, u79, u80, u81, u82, u83, u84, u85, u86, u87, u88, u89, u90, u91, u92, u93, u94, u95, u96, u97, u98, u99, u100, u101, u102, u103, u104, u105, u106, u107, u108, u109, u110, u111, u112, u113, u114, u115, u116, u117, u118, u119, u120, u121, u122, u123, u124, u125, u126, u127, u128, u129, u130, u131, u132, u133, u134, u135, u136, u137, u138, u139, u140, u141, u142, u143, u144, u145, u146, u147, u148, u149, u150, u151, u152, u153, u154, u155, u156, u157, u158, u159, u160, u161, u162, u163, u164], []⟩ W := by
  dsimp only
  generalize hf0 : Act.mk _ _ = f0
  obtain ⟨hb, hb2, hb3, hB0⟩ := hrk.tb.low
  have hk := hrk.cnt
  have hpre := hrk.pre
  conv => arg 4; whnf
  have hlen := hpre.length_le
  obtain ⟨Aa, cap, hbx, hrow⟩ := Wnt.slice hrk.want
  have hbxl := hrk.lt
  have HROW := Lib.hid hrow
  have HTA := Lib.hid hrk
  have HKB := Lib.hid hk
  have HPR := Lib.hid hpre
  have hck := hk.cell
  have hca := hbx.cell
  obtain ⟨X, hX⟩ : ∃ X, X = arC x := ⟨_, rfl⟩
  have hXi : (Tryd.prog.info? 31).map (·.size) = some X.length := by rw [hX]; exact infA
  have hXr : W.rangeAt q 0 X := by rw [hX]; exact area_range hq
  have HXI := Lib.hid hXi
  have HXR := Lib.hid hXr
  have HX := Lib.hid hX
  obtain ⟨ln, hln⟩ : ∃ ln, ln = L.length := ⟨_, rfl⟩
  obtain ⟨pn, hpn⟩ : ∃ pn, pn = pre.length := ⟨_, rfl⟩
  have hlm : ln ≤ 9223372036854775807 := by omega
  have hnp : ¬ (pre ++ [x]) <+: L := fun h => by obtain ⟨h1, h2⟩ := (pre_snoc hpre x).1 h; exact hne h2.symm
  have HNP := Lib.hid hnp
  have HPN := Lib.hid hpn
  rw [← hln] at hca
  rw [← hpn] at hck
  have hlt0 := hlt
  rw [← hpn, ← hln] at hlt
  have hpl : pn < L.length := by omega
  obtain ⟨g, hAA, -, hcap, hyr⟩ := hrow pn hpl
  obtain ⟨y, hy⟩ : ∃ y, y = L[pn] := ⟨_, rfl⟩
  rw [← hy] at hyr
  obtain ⟨Y, hY⟩ : ∃ Y, Y = arC y := ⟨_, rfl⟩
  have hYi : (Tryd.prog.info? 31).map (·.size) = some Y.length := by rw [hY]; exact infA
  rw [← hY] at hyr
  have HYI := Lib.hid hYi
  have HYR := Lib.hid hyr
  have HY := Lib.hid hY
  have HAA := Lib.hid hAA
  have hge0 : decide (ln ≤ pn) = false := by simpa using hlt
  have hb' : (!decide (x = y)) = true := by
    have e : y = L[pre.length] := by rw [hy]; congr 1
    rw [e]; simpa using hne
  obtain ⟨nb, hnb⟩ : ∃ nb, nb = (!decide (x = y)) := ⟨_, rfl⟩
  have HNB := Lib.hid hnb.symm
  rw [← hnb] at hb'
  have hge := hge0
  clear hge0 hnp hlt0 hne hpl hAA hyr hY hYi hy
  subst hb'
  clear hnb
  clear hrk hk hpre hbx hXi hXr hX hq hln hpn hlen hz hrow hbxl
  refine wpIn_block ?_
  refine wpIn_seq ?_
  refine wpIn_seq ?_
  refine wpIn_region_stillK (by kernel_rfl) (by kernel_rfl) (by rintro ⟨_, _, h⟩; exact h) (by intro o ho c hc; simp only [List.mem_cons, List.not_mem_nil, or_false] at ho; rcases ho with rfl | rfl | rfl | rfl | rfl | rfl | rfl | rfl | rfl | rfl | rfl | rfl <;> cases hc) (fun Qx hQx => ?_)
  refine still_one (.int .i64 pn) (by rw [← hf0]; kernel_rfl) (ld_int _ rfl ⟨kb, 0, none⟩ (by rw [← hf0]; kernel_rfl) _ hck) (fun f1 h1 => ?_)
  refine still_one (.slice Aa ln cap) (by rw [h1, ← hf0]; kernel_rfl) (ld_sl _ rfl ⟨a0, 0, none⟩ (by rw [h1, ← hf0]; kernel_rfl) _ hca) (fun f2 h2 => ?_)
  refine still_one (.int .i64 ln) (by rw [h2, h1, ← hf0]; kernel_rfl) (len_at _ rfl Aa ln cap (by rw [h2, h1, ← hf0]; kernel_rfl) rfl hlm) (fun f3 h3 => ?_)
  refine still_one (.bool false) (by rw [h3, h2, h1, ← hf0]; kernel_rfl) ((ge_at _ _ rfl pn ln (by rw [h3, h2, h1, ← hf0]; kernel_rfl) (by rw [h3, h2, h1, ← hf0]; kernel_rfl)).trans (by rw [hge])) (fun f4 h4 => ?_)
  refine still_one (.bool false) (by rw [h4, h3, h2, h1, ← hf0]; kernel_rfl) (by rw [h4, h3, h2, h1, ← hf0]; kernel_rfl) (fun f5 h5 => ?_)
  refine still_one (.agg X.toArray) (by rw [h5, h4, h3, h2, h1, ← hf0]; kernel_rfl) (ld_row _ rfl q 0 (by rw [h5, h4, h3, h2, h1, ← hf0]; kernel_rfl) X HXR.out HXI.out) (fun f6 h6 => ?_)
  refine still_one (.slice Aa ln cap) (by rw [h6, h5, h4, h3, h2, h1, ← hf0]; kernel_rfl) (ld_sl _ rfl ⟨a0, 0, none⟩ (by rw [h6, h5, h4, h3, h2, h1, ← hf0]; kernel_rfl) _ hca) (fun f7 h7 => ?_)
  refine still_one (.int .i64 pn) (by rw [h7, h6, h5, h4, h3, h2, h1, ← hf0]; kernel_rfl) (ld_int _ rfl ⟨kb, 0, none⟩ (by rw [h7, h6, h5, h4, h3, h2, h1, ← hf0]; kernel_rfl) _ hck) (fun f8 h8 => ?_)
  refine still_one (.pointer (some ⟨g, pn * 12, none⟩)) (by rw [h8, h7, h6, h5, h4, h3, h2, h1, ← hf0]; kernel_rfl) (ix_at _ _ rfl g ln cap pn (by rw [h8, h7, h6, h5, h4, h3, h2, h1, ← hf0, HAA.out]; kernel_rfl) (by rw [h8, h7, h6, h5, h4, h3, h2, h1, ← hf0]; kernel_rfl) hlt) (fun f9 h9 => ?_)
  refine still_one (.agg Y.toArray) (by rw [h9, h8, h7, h6, h5, h4, h3, h2, h1, ← hf0]; kernel_rfl) (ld_row _ rfl g (pn * 12) (by rw [h9, h8, h7, h6, h5, h4, h3, h2, h1, ← hf0]; kernel_rfl) Y HYR.out HYI.out) (fun f10 h10 => ?_)
  refine still_one (.bool true) (by rw [h10, h9, h8, h7, h6, h5, h4, h3, h2, h1, ← hf0]; kernel_rfl) ((ne_at _ _ rfl x y (by rw [h10, h9, h8, h7, h6, h5, h4, h3, h2, h1, ← hf0, HX.out]; kernel_rfl) (by rw [h10, h9, h8, h7, h6, h5, h4, h3, h2, h1, ← hf0, HY.out]; kernel_rfl)).trans (by rw [HNB.out])) (fun f11 h11 => ?_)
  refine still_one (.bool true) (by rw [h11, h10, h9, h8, h7, h6, h5, h4, h3, h2, h1, ← hf0]; kernel_rfl) (by rw [h11, h10, h9, h8, h7, h6, h5, h4, h3, h2, h1, ← hf0]; kernel_rfl) (fun f12 h12 => ?_)
  refine wpStill_nil (hQx _ ?_)
  have hf12 : f12 = ⟨#[u0, u1, .pointer (some ⟨b0 + 1, 0, none⟩), u3, u4, u5, .pointer (some ⟨kb, 0, none⟩), .pointer (some ⟨a0, 0, none⟩), u8, u9, u10, u11, .pointer (some ⟨q, 0, none⟩), u13, u14, u15, u16, u17, u18, u19, u20, u21, u22, u23, u24, u25, u26, u27, u28, u29, u30, u31, u32, u33, u34, u35, u36, u37, u38, u39, u40, u41, u42, u43, u44, u45, u46, u47, u48, u49, u50, u51, u52, u53, u54, u55, u56, u57, u58, u59, u60, u61, u62, u63, u64, u65, u66, u67, u68, u69, u70, u71, u72, u73, u74, u75, u76, u77, u78, u79, u80, u81, u82, u83, u84, u85, u86, u87, u88, u89, u90, u91, u92, u93, u94, u95, u96, u97, u98, u99, u100, u101, u102, u103, u104, u105, u106, u107, u108, u109, u110, u111, u112, u113, u114, u115, u116, u117, u118, u119, u120, u121, u122, .int .i64 pn, .slice Aa ln cap, .int .i64 ln, .bool false, .bool false, .agg X.toArray, .slice Aa ln cap, .int .i64 pn, .pointer (some ⟨g, pn * 12, none⟩), .agg Y.toArray, .bool true, .bool true, u135, u136, u137, u138, u139, u140, u141, u142, u143, u144, u145, u146, u147, u148, u149, u150, u151, u152, u153, u154, u155, u156, u157, u158, u159, u160, u161, u162, u163, u164], []⟩ := by rw [h12, h11, h10, h9, h8, h7, h6, h5, h4, h3, h2, h1, ← hf0]; kernel_rfl
  dsimp only at hf12
  rw [hf12]
  clear hf12 h12 h11 h10 h9 h8 h7 h6 h5 h4 h3 h2 h1 hf0 hQx f12 f11 f10 f9 f8 f7 f6 f5 f4 f3 f2 f1 f0 Qx
  obtain ⟨Wd, hWd⟩ : ∃ Wd, Wd = W.drew := ⟨_, rfl⟩
  change Code.wpIn _ _ _ _ _ _ (World.drew W)
  rw [← hWd]
  obtain ⟨u, hu⟩ := HTA.out.tb.res
  have hu1 : Boxed Wd (b0 + 1) 4 u := by rw [hWd]; exact hu
  have huc := hu1.cell
  have huf := hu1.frozen
  have HWD := Lib.hid hWd
  clear hu hu1 hWd hck hca
  gi_wp2
  refine ⟨?_, HNP.out⟩
  have e : KeepsFrom B W Wd := by rw [HWD.out]; exact ⟨Nat.le_refl _, fun _ _ _ h _ => h⟩
  exact e.trans (KeepsFrom.of_grownBy (grownBy_setCell' _ _ _) (fun j e => by cases e; omega))

set_option maxRecDepth 100000 in
set_option maxHeartbeats 2000000 in
theorem tells2_same (l n : Nat) (u0 u1 u3 u4 u5 u8 u9 u10 u11 u13 u14 u15 u16 u17 u18 u19 u20 u21 u22 u23 u24 u25 u26 u27 u28 u29 u30 u31 u32 u33 u34 u35 u36 u37 u38 u39 u40 u41 u42 u43 u44 u45 u46 u47 u48 u49 u50 u51 u52 u53 u54 u55 u56 u57 u58 u59 u60 u61 u62 u63 u64 u65 u66 u67 u68 u69 u70 u71 u72 u73 u74 u75 u76 u77 u78 u79 u80 u81 u82 u83 u84 u85 u86 u87 u88 u89 u90 u91 u92 u93 u94 u95 u96 u97 u98 u99 u100 u101 u102 u103 u104 u105 u106 u107 u108 u109 u110 u111 u112 u113 u114 u115 u116 u117 u118 u119 u120 u121 u122 u123 u124 u125 u126 u127 u128 u129 u130 u131 u132 u133 u134 u135 u136 u137 u138 u139 u140 u141 u142 u143 u144 u145 u146 u147 u148 u149 u150 u151 u152 u153 u154 u155 u156 u157 u158 u159 u160 u161 u162 u163 u164 : Value) (q B0 b0 p3 kb a0 nb r B : Nat) (w W : World) (N : Array Value) (lnd : List Tr) (nm : List ByteArray) (L pre : List (Cn × Cn)) (x : Cn × Cn) (ds : List Deferred) (hrk : RK B0 b0 p3 kb a0 nb w N lnd L nm ds pre W) (hka : kb < a0) (_han : a0 < nb) (_hrb : r < kb) (hq : W.heap[q]? = some (.cells (arC x).toArray 31)) (hz : L.length ≤ 1000) (hkB : nb < B) (hlt : pre.length < L.length) (hne : x = L[pre.length]) :
    (rfBody (rf1 (fromRegion 29 tellsC))).wpIn (Fence.wide.inRound l) n Tryd.prog (ownPostG B (KeepTs (r + 1) [85, 77]) (fun (pre : List (Cn × Cn)) W => RK B0 b0 p3 kb a0 nb w N lnd L nm ds pre W) (fun _ pre _ => ¬ pre <+: L) (pre ++ [x]) W) ⟨#[u0, u1, .pointer (some ⟨b0 + 1, 0, none⟩), u3, u4, u5, .pointer (some ⟨kb, 0, none⟩), .pointer (some ⟨a0, 0, none⟩), u8, u9, u10, u11, .pointer (some ⟨q, 0, none⟩), u13, u14, u15, u16, u17, u18, u19, u20, u21, u22, u23, u24, u25, u26, u27, u28, u29, u30, u31, u32, u33, u34, u35, u36, u37, u38, u39, u40, u41, u42, u43, u44, u45, u46, u47, u48, u49, u50, u51, u52, u53, u54, u55, u56, u57, u58, u59, u60, u61, u62, u63, u64, u65, u66, u67, u68, u69, u70, u71, u72, u73, u74, u75, u76, u77, u78, u79, u80, u81, u82, u83, u84, u85, u86, u87, u88, u89, u90, u91, u92, u93, u94, u95, u96, u97, u98, u99, u100, u101, u102, u103, u104, u105, u106, u107, u108, u109, u110, u111, u112, u113, u114, u115, u116, u117, u118, u119, u120, u121, u122, u123, u124, u125, u126, u127, u128, u129, u130, u131, u132, u133, u134, u135, u136, u137, u138, u139, u140, u141, u142, u143, u144, u145, u146, u147, u148, u149, u150, u151, u152, u153, u154, u155, u156, u157, u158, u159, u160, u161, u162, u163, u164], []⟩ W := by
  dsimp only
  generalize hf0 : Act.mk _ _ = f0
  obtain ⟨hb, hb2, hb3, hB0⟩ := hrk.tb.low
  have hk := hrk.cnt
  have hpre := hrk.pre
  conv => arg 4; whnf
  have hlen := hpre.length_le
  obtain ⟨Aa, cap, hbx, hrow⟩ := Wnt.slice hrk.want
  have hbxl := hrk.lt
  have HROW := Lib.hid hrow
  have HTA := Lib.hid hrk
  have HKB := Lib.hid hk
  have HPR := Lib.hid hpre
  have hck := hk.cell
  have hca := hbx.cell
  obtain ⟨X, hX⟩ : ∃ X, X = arC x := ⟨_, rfl⟩
  have hXi : (Tryd.prog.info? 31).map (·.size) = some X.length := by rw [hX]; exact infA
  have hXr : W.rangeAt q 0 X := by rw [hX]; exact area_range hq
  have HXI := Lib.hid hXi
  have HXR := Lib.hid hXr
  have HX := Lib.hid hX
  obtain ⟨ln, hln⟩ : ∃ ln, ln = L.length := ⟨_, rfl⟩
  obtain ⟨pn, hpn⟩ : ∃ pn, pn = pre.length := ⟨_, rfl⟩
  have hlm : ln ≤ 9223372036854775807 := by omega
  have hnp : (pre ++ [x]) <+: L := (pre_snoc hpre x).2 ⟨hlt, hne.symm⟩
  have HNP := Lib.hid hnp
  have HPN := Lib.hid hpn
  rw [← hln] at hca
  rw [← hpn] at hck
  have hlt0 := hlt
  rw [← hpn, ← hln] at hlt
  have hpl : pn < L.length := by omega
  obtain ⟨g, hAA, -, hcap, hyr⟩ := hrow pn hpl
  obtain ⟨y, hy⟩ : ∃ y, y = L[pn] := ⟨_, rfl⟩
  rw [← hy] at hyr
  obtain ⟨Y, hY⟩ : ∃ Y, Y = arC y := ⟨_, rfl⟩
  have hYi : (Tryd.prog.info? 31).map (·.size) = some Y.length := by rw [hY]; exact infA
  rw [← hY] at hyr
  have HYI := Lib.hid hYi
  have HYR := Lib.hid hyr
  have HY := Lib.hid hY
  have HAA := Lib.hid hAA
  have hge0 : decide (ln ≤ pn) = false := by simpa using hlt
  have hb' : (!decide (x = y)) = false := by
    have e : y = L[pre.length] := by rw [hy]; congr 1
    rw [e]; simpa using hne
  obtain ⟨nb, hnb⟩ : ∃ nb, nb = (!decide (x = y)) := ⟨_, rfl⟩
  have HNB := Lib.hid hnb.symm
  rw [← hnb] at hb'
  have hge := hge0
  clear hge0 hnp hlt0 hne hpl hAA hyr hY hYi hy
  subst hb'
  clear hnb
  clear hrk hk hpre hbx hXi hXr hX hq hln hpn hlen hz hrow hbxl
  refine wpIn_block ?_
  refine wpIn_seq ?_
  refine wpIn_seq ?_
  refine wpIn_region_stillK (by kernel_rfl) (by kernel_rfl) (by rintro ⟨_, _, h⟩; exact h) (by intro o ho c hc; simp only [List.mem_cons, List.not_mem_nil, or_false] at ho; rcases ho with rfl | rfl | rfl | rfl | rfl | rfl | rfl | rfl | rfl | rfl | rfl | rfl <;> cases hc) (fun Qx hQx => ?_)
  refine still_one (.int .i64 pn) (by rw [← hf0]; kernel_rfl) (ld_int _ rfl ⟨kb, 0, none⟩ (by rw [← hf0]; kernel_rfl) _ hck) (fun f1 h1 => ?_)
  refine still_one (.slice Aa ln cap) (by rw [h1, ← hf0]; kernel_rfl) (ld_sl _ rfl ⟨a0, 0, none⟩ (by rw [h1, ← hf0]; kernel_rfl) _ hca) (fun f2 h2 => ?_)
  refine still_one (.int .i64 ln) (by rw [h2, h1, ← hf0]; kernel_rfl) (len_at _ rfl Aa ln cap (by rw [h2, h1, ← hf0]; kernel_rfl) rfl hlm) (fun f3 h3 => ?_)
  refine still_one (.bool false) (by rw [h3, h2, h1, ← hf0]; kernel_rfl) ((ge_at _ _ rfl pn ln (by rw [h3, h2, h1, ← hf0]; kernel_rfl) (by rw [h3, h2, h1, ← hf0]; kernel_rfl)).trans (by rw [hge])) (fun f4 h4 => ?_)
  refine still_one (.bool false) (by rw [h4, h3, h2, h1, ← hf0]; kernel_rfl) (by rw [h4, h3, h2, h1, ← hf0]; kernel_rfl) (fun f5 h5 => ?_)
  refine still_one (.agg X.toArray) (by rw [h5, h4, h3, h2, h1, ← hf0]; kernel_rfl) (ld_row _ rfl q 0 (by rw [h5, h4, h3, h2, h1, ← hf0]; kernel_rfl) X HXR.out HXI.out) (fun f6 h6 => ?_)
  refine still_one (.slice Aa ln cap) (by rw [h6, h5, h4, h3, h2, h1, ← hf0]; kernel_rfl) (ld_sl _ rfl ⟨a0, 0, none⟩ (by rw [h6, h5, h4, h3, h2, h1, ← hf0]; kernel_rfl) _ hca) (fun f7 h7 => ?_)
  refine still_one (.int .i64 pn) (by rw [h7, h6, h5, h4, h3, h2, h1, ← hf0]; kernel_rfl) (ld_int _ rfl ⟨kb, 0, none⟩ (by rw [h7, h6, h5, h4, h3, h2, h1, ← hf0]; kernel_rfl) _ hck) (fun f8 h8 => ?_)
  refine still_one (.pointer (some ⟨g, pn * 12, none⟩)) (by rw [h8, h7, h6, h5, h4, h3, h2, h1, ← hf0]; kernel_rfl) (ix_at _ _ rfl g ln cap pn (by rw [h8, h7, h6, h5, h4, h3, h2, h1, ← hf0, HAA.out]; kernel_rfl) (by rw [h8, h7, h6, h5, h4, h3, h2, h1, ← hf0]; kernel_rfl) hlt) (fun f9 h9 => ?_)
  refine still_one (.agg Y.toArray) (by rw [h9, h8, h7, h6, h5, h4, h3, h2, h1, ← hf0]; kernel_rfl) (ld_row _ rfl g (pn * 12) (by rw [h9, h8, h7, h6, h5, h4, h3, h2, h1, ← hf0]; kernel_rfl) Y HYR.out HYI.out) (fun f10 h10 => ?_)
  refine still_one (.bool false) (by rw [h10, h9, h8, h7, h6, h5, h4, h3, h2, h1, ← hf0]; kernel_rfl) ((ne_at _ _ rfl x y (by rw [h10, h9, h8, h7, h6, h5, h4, h3, h2, h1, ← hf0, HX.out]; kernel_rfl) (by rw [h10, h9, h8, h7, h6, h5, h4, h3, h2, h1, ← hf0, HY.out]; kernel_rfl)).trans (by rw [HNB.out])) (fun f11 h11 => ?_)
  refine still_one (.bool false) (by rw [h11, h10, h9, h8, h7, h6, h5, h4, h3, h2, h1, ← hf0]; kernel_rfl) (by rw [h11, h10, h9, h8, h7, h6, h5, h4, h3, h2, h1, ← hf0]; kernel_rfl) (fun f12 h12 => ?_)
  refine wpStill_nil (hQx _ ?_)
  have hf12 : f12 = ⟨#[u0, u1, .pointer (some ⟨b0 + 1, 0, none⟩), u3, u4, u5, .pointer (some ⟨kb, 0, none⟩), .pointer (some ⟨a0, 0, none⟩), u8, u9, u10, u11, .pointer (some ⟨q, 0, none⟩), u13, u14, u15, u16, u17, u18, u19, u20, u21, u22, u23, u24, u25, u26, u27, u28, u29, u30, u31, u32, u33, u34, u35, u36, u37, u38, u39, u40, u41, u42, u43, u44, u45, u46, u47, u48, u49, u50, u51, u52, u53, u54, u55, u56, u57, u58, u59, u60, u61, u62, u63, u64, u65, u66, u67, u68, u69, u70, u71, u72, u73, u74, u75, u76, u77, u78, u79, u80, u81, u82, u83, u84, u85, u86, u87, u88, u89, u90, u91, u92, u93, u94, u95, u96, u97, u98, u99, u100, u101, u102, u103, u104, u105, u106, u107, u108, u109, u110, u111, u112, u113, u114, u115, u116, u117, u118, u119, u120, u121, u122, .int .i64 pn, .slice Aa ln cap, .int .i64 ln, .bool false, .bool false, .agg X.toArray, .slice Aa ln cap, .int .i64 pn, .pointer (some ⟨g, pn * 12, none⟩), .agg Y.toArray, .bool false, .bool false, u135, u136, u137, u138, u139, u140, u141, u142, u143, u144, u145, u146, u147, u148, u149, u150, u151, u152, u153, u154, u155, u156, u157, u158, u159, u160, u161, u162, u163, u164], []⟩ := by rw [h12, h11, h10, h9, h8, h7, h6, h5, h4, h3, h2, h1, ← hf0]; kernel_rfl
  dsimp only at hf12
  rw [hf12]
  clear hf12 h12 h11 h10 h9 h8 h7 h6 h5 h4 h3 h2 h1 hf0 hQx f12 f11 f10 f9 f8 f7 f6 f5 f4 f3 f2 f1 f0 Qx
  obtain ⟨Wd, hWd⟩ : ∃ Wd, Wd = W.drew := ⟨_, rfl⟩
  change Code.wpIn _ _ _ _ _ _ (World.drew W)
  rw [← hWd]
  have hk1 : Boxed Wd kb 3 (.int .i64 pn) := by rw [hWd, HPN.out]; exact HKB.out
  have hkc := hk1.cell
  have hkf := hk1.frozen
  have hov : (pn : Int) + 1 ≤ 9223372036854775807 := by omega
  have HWD := Lib.hid hWd
  have HK1 := Lib.hid hk1
  clear hWd hck hca hk1
  gi_wp2
  have e : KeepsFrom B W Wd := by rw [HWD.out]; exact ⟨Nat.le_refl _, fun _ _ _ h _ => h⟩
  have e1 : KeepTs (r + 1) [85, 77] W Wd := by rw [HWD.out]; exact ⟨(Below.refl _ W).drew, fun _ _ _ _ => rfl⟩
  refine ⟨e.trans (KeepsFrom.of_grownBy (grownBy_setCell' _ _ _) (fun j e => by cases e; omega)), e1.trans (KeepTs.setCell (by simp only; omega) (fun T hT => ?_) _), ?_⟩
  · simp only [List.mem_cons, List.not_mem_nil, or_false] at hT
    rcases hT with rfl | rfl <;> exact boxed_notOf HK1.out (by decide)
  · have e2 : (((pre ++ [x]).length : Nat) : Int) = (pn : Int) + 1 := by rw [List.length_append, List.length_singleton, HPN.out]; rfl
    have h4 := HTA.out
    have hcd : Ch (fun j => j = kb) W Wd := by rw [HWD.out]; exact (Ch.refl _ W).drew
    exact h4.step (hcd.trans (.setCell Wd kb _ rfl)) hka (by omega) HNP.out (by rw [e2]; exact HK1.out.set _)
end Go.Proofs.YtggpffipijoddaaDoor
namespace Go.Proofs.YtggpffipijoddaaDoor
open Go Go.RowKit Go.Shelf
attribute [local go_sem] Oper.semAt_some

set_option maxRecDepth 100000 in
set_option maxHeartbeats 2000000 in
theorem tells_range2 (u0 u1 u3 u4 u5 u8 u9 u10 u11 u12 u13 u14 u15 u16 u17 u18 u19 u20 u21 u22 u23 u24 u25 u26 u27 u28 u29 u30 u31 u32 u33 u34 u35 u36 u37 u38 u39 u40 u41 u42 u43 u44 u45 u46 u47 u48 u49 u50 u51 u52 u53 u54 u55 u56 u57 u58 u59 u60 u61 u62 u63 u64 u65 u66 u67 u68 u69 u70 u71 u72 u73 u74 u75 u76 u77 u78 u79 u80 u81 u82 u83 u84 u85 u86 u87 u88 u89 u90 u91 u92 u93 u94 u95 u96 u97 u98 u99 u100 u101 u102 u103 u104 u105 u106 u107 u108 u109 u110 u111 u112 u113 u114 u115 u116 u117 u118 u119 u120 u122 u123 u124 u125 u126 u127 u128 u129 u130 u131 u132 u133 u134 u135 u136 u137 u138 u139 u140 u141 u142 u143 u144 u145 u146 u147 u148 u149 u150 u151 u152 u153 u154 u155 u156 u157 u158 u159 u160 u161 u162 u163 u164 : Value) (B0 b0 p3 kb a0 nb r c : Nat) (w W : World) (N : Array Value) (lnd : List Tr) (nm : List ByteArray) (t : Tr) (A : Option Addr) (ds : List Deferred) (hrk : RK B0 b0 p3 kb a0 nb w N lnd (areasT t) nm ds [] W) (hka : kb < a0) (han : a0 < nb) (hrb : r < kb) (hBr : B0 ≤ r) (hr : W.heap[r]? = some (.cells (nodeA t.d A t.l.length c) 34)) (hd : t.d.ok) (hs : SlAt w B0 A c t.l)
    (hz : t.size ≤ 1000) (Q : Exit → Act → World → Prop) (hQ : ∀ D W', RK B0 b0 p3 kb a0 nb w N lnd (areasT t) nm (markOf D :: ds) (areasT t) W' → W'.heap.size ≥ W.heap.size → Q .normal ⟨#[u0, u1, .pointer (some ⟨b0 + 1, 0, none⟩), u3, u4, u5, .pointer (some ⟨kb, 0, none⟩), .pointer (some ⟨a0, 0, none⟩), u8, u9, u10, u11, u12, u13, u14, u15, u16, u17, u18, u19, u20, u21, u22, u23, u24, u25, u26, u27, u28, u29, u30, u31, u32, u33, u34, u35, u36, u37, u38, u39, u40, u41, u42, u43, u44, u45, u46, u47, u48, u49, u50, u51, u52, u53, u54, u55, u56, u57, u58, u59, u60, u61, u62, u63, u64, u65, u66, u67, u68, u69, u70, u71, u72, u73, u74, u75, u76, u77, u78, u79, u80, u81, u82, u83, u84, u85, u86, u87, u88, u89, u90, u91, u92, u93, u94, u95, u96, u97, u98, u99, u100, u101, u102, u103, u104, u105, u106, u107, u108, u109, u110, u111, u112, u113, u114, u115, u116, u117, u118, u119, u120, .func (.func 34) #[] #[.pointer (some ⟨r, 0, none⟩)], u122, u123, u124, u125, u126, u127, u128, u129, u130, u131, u132, u133, u134, u135, u136, u137, u138, u139, u140, u141, u142, u143, u144, u145, u146, u147, u148, u149, u150, u151, u152, u153, u154, u155, u156, u157, u158, u159, u160, u161, u162, u163, u164], (markOf D :: ds)⟩ W') :
    (rf1 (fromRegion 29 tellsC)).wp Tryd.prog Q ⟨#[u0, u1, .pointer (some ⟨b0 + 1, 0, none⟩), u3, u4, u5, .pointer (some ⟨kb, 0, none⟩), .pointer (some ⟨a0, 0, none⟩), u8, u9, u10, u11, u12, u13, u14, u15, u16, u17, u18, u19, u20, u21, u22, u23, u24, u25, u26, u27, u28, u29, u30, u31, u32, u33, u34, u35, u36, u37, u38, u39, u40, u41, u42, u43, u44, u45, u46, u47, u48, u49, u50, u51, u52, u53, u54, u55, u56, u57, u58, u59, u60, u61, u62, u63, u64, u65, u66, u67, u68, u69, u70, u71, u72, u73, u74, u75, u76, u77, u78, u79, u80, u81, u82, u83, u84, u85, u86, u87, u88, u89, u90, u91, u92, u93, u94, u95, u96, u97, u98, u99, u100, u101, u102, u103, u104, u105, u106, u107, u108, u109, u110, u111, u112, u113, u114, u115, u116, u117, u118, u119, u120, .func (.func 34) #[] #[.pointer (some ⟨r, 0, none⟩)], u122, u123, u124, u125, u126, u127, u128, u129, u130, u131, u132, u133, u134, u135, u136, u137, u138, u139, u140, u141, u142, u143, u144, u145, u146, u147, u148, u149, u150, u151, u152, u153, u154, u155, u156, u157, u158, u159, u160, u161, u162, u163, u164], ds⟩ W := by
  dsimp only
  dsimp only at hQ
  refine (wpIn_wide (n := 5)).1 ?_
  conv => arg 4; whnf
  have hpl := hrk.lt
  have hrl : r < W.heap.size := (Array.getElem?_eq_some_iff.1 hr).1
  have hLz : (areasT t).length ≤ 1000 := by have := areasT_le t; omega
  obtain ⟨at_, rfl, hab, hao, hat⟩ := NodeAt.addr t r 0 (boxed_node hd hs hBr hrk.tb.below hr)
  have hseq := areas1_seq W (r + 1) at_ hat (by omega) (by omega)
  rw [hab, hao, areasP_items] at hseq
  obtain ⟨kz, hkz⟩ : ∃ kz, kz = at_.tr.size := ⟨_, rfl⟩
  obtain ⟨L, hL⟩ : ∃ L, L = areasT at_.tr := ⟨_, rfl⟩
  rw [← hkz, ← hL] at hseq
  rw [← hL] at hQ hLz hrk
  have HRK := Lib.hid hrk
  have HQ := Lib.hid hQ
  clear hrk hQ hkz hL hat hd hs hr hz hab hao
  have hml : ∀ d ∈ ds, ∀ D, d = markOf D → D < W.heap.size := HRK.out.marks.lt
  refine range_N (n := 5) (n₀ := r + 1) (by omega) (gf := 34) (lb := #[.pointer (some ⟨r, 0, none⟩)]) rfl (enters_of Tryd.func34 (by kernel_rfl) rfl)
    hseq (by omega) (Below.refl _ _) (fun _ => rfl)
    (fun (pre : List (Cn × Cn)) W' => RK B0 b0 p3 kb a0 nb w N lnd L nm ds pre W')
    (fun _ (pre : List (Cn × Cn)) _ => ¬ pre <+: L)
    (RK.abides hpl hka han hml)
    (fun _ _ _ _ _ h _ _ => h)
    HRK.out
    (fun x a' W' => ∃ q, a' = ⟨#[u0, u1, .pointer (some ⟨b0 + 1, 0, none⟩), u3, u4, u5, .pointer (some ⟨kb, 0, none⟩), .pointer (some ⟨a0, 0, none⟩), u8, u9, u10, u11, .pointer (some ⟨q, 0, none⟩), u13, u14, u15, u16, u17, u18, u19, u20, u21, u22, u23, u24, u25, u26, u27, u28, u29, u30, u31, u32, u33, u34, u35, u36, u37, u38, u39, u40, u41, u42, u43, u44, u45, u46, u47, u48, u49, u50, u51, u52, u53, u54, u55, u56, u57, u58, u59, u60, u61, u62, u63, u64, u65, u66, u67, u68, u69, u70, u71, u72, u73, u74, u75, u76, u77, u78, u79, u80, u81, u82, u83, u84, u85, u86, u87, u88, u89, u90, u91, u92, u93, u94, u95, u96, u97, u98, u99, u100, u101, u102, u103, u104, u105, u106, u107, u108, u109, u110, u111, u112, u113, u114, u115, u116, u117, u118, u119, u120, .func (.func 34) #[] #[.pointer (some ⟨r, 0, none⟩)], arV x, u123, u124, u125, u126, u127, u128, u129, u130, u131, u132, u133, u134, u135, u136, u137, u138, u139, u140, u141, u142, u143, u144, u145, u146, u147, u148, u149, u150, u151, u152, u153, u154, u155, u156, u157, u158, u159, u160, u161, u162, u163, u164], []⟩ ∧ W'.heap[q]? = some (.cells (arC x).toArray 31))
    (fun x a' s A1 B1 row h hg hr1 => by
      obtain ⟨q, h1, h2⟩ := h
      refine ⟨q, h1, (hg.block q (Array.getElem?_eq_some_iff.1 h2).1 (fun e => ?_)).trans h2⟩
      obtain ⟨-, o, ho, hn⟩ := hr1 q e.symm
      rw [h2] at ho; cases ho; cases hn)
    ?assign ?body ?done ?stop
  case assign =>
    intro l pre x W1 K hI hK
    dsimp only [encA]
    simp only [List.zip_toArray, List.zip_cons_cons, List.zip_nil_right, List.foldl_toArray, List.foldl_cons, List.foldl_nil, List.setIfInBounds_toArray, List.set_cons_succ, List.set_cons_zero]
    have HK := Lib.hid hK
    clear hK
    refine wpIn_region_lit (wpListIn_of (by rintro ⟨_, _, h⟩; exact h) _ _ _ (by intro o ho c hc; simp only [List.mem_cons, List.not_mem_nil, or_false] at ho; rcases ho with rfl | rfl <;> cases hc) ?_)
    refine wpList_areaVar rfl rfl W1.heap.size rfl ?_
    refine wpList_storeFresh (w := W1) rfl 31 _ _ rfl W1.heap.size rfl (arC x).toArray rfl rfl infA rfl (by rw [Array.all_eq_true']; intro u hu; exact arC_one x u (by simpa using hu)) ?_
    have hlt := hI.lt
    refine HK.out _ _ ⟨by rw [World.size_alloc]; omega, fun k o _ h _ => (heapOld _ _ _ (Array.getElem?_eq_some_iff.1 h).1).trans h⟩ (KeepTs.alloc _ (by omega)) (hI.below ((Below.refl _ _).alloc (Nat.le_refl _) _)) ⟨W1.heap.size, rfl, heap_alloc_new _ _⟩
  case body =>
    rintro l pre x a' W1 hl - hI ⟨q, rfl, hq⟩ hlen
    by_cases hlt : pre.length < L.length
    · by_cases hx : x = L[pre.length]
      · exact tells2_same l _ u0 u1 u3 u4 u5 u8 u9 u10 u11 u13 u14 u15 u16 u17 u18 u19 u20 u21 u22 u23 u24 u25 u26 u27 u28 u29 u30 u31 u32 u33 u34 u35 u36 u37 u38 u39 u40 u41 u42 u43 u44 u45 u46 u47 u48 u49 u50 u51 u52 u53 u54 u55 u56 u57 u58 u59 u60 u61 u62 u63 u64 u65 u66 u67 u68 u69 u70 u71 u72 u73 u74 u75 u76 u77 u78 u79 u80 u81 u82 u83 u84 u85 u86 u87 u88 u89 u90 u91 u92 u93 u94 u95 u96 u97 u98 u99 u100 u101 u102 u103 u104 u105 u106 u107 u108 u109 u110 u111 u112 u113 u114 u115 u116 u117 u118 u119 u120 (.func (.func 34) #[] #[.pointer (some ⟨r, 0, none⟩)]) (arV x) u123 u124 u125 u126 u127 u128 u129 u130 u131 u132 u133 u134 u135 u136 u137 u138 u139 u140 u141 u142 u143 u144 u145 u146 u147 u148 u149 u150 u151 u152 u153 u154 u155 u156 u157 u158 u159 u160 u161 u162 u163 u164 q B0 b0 p3 kb a0 nb r _ w W1 N lnd nm L pre x ds hI hka han hrb hq hLz hpl hlt hx
      · exact tells2_other l _ u0 u1 u3 u4 u5 u8 u9 u10 u11 u13 u14 u15 u16 u17 u18 u19 u20 u21 u22 u23 u24 u25 u26 u27 u28 u29 u30 u31 u32 u33 u34 u35 u36 u37 u38 u39 u40 u41 u42 u43 u44 u45 u46 u47 u48 u49 u50 u51 u52 u53 u54 u55 u56 u57 u58 u59 u60 u61 u62 u63 u64 u65 u66 u67 u68 u69 u70 u71 u72 u73 u74 u75 u76 u77 u78 u79 u80 u81 u82 u83 u84 u85 u86 u87 u88 u89 u90 u91 u92 u93 u94 u95 u96 u97 u98 u99 u100 u101 u102 u103 u104 u105 u106 u107 u108 u109 u110 u111 u112 u113 u114 u115 u116 u117 u118 u119 u120 (.func (.func 34) #[] #[.pointer (some ⟨r, 0, none⟩)]) (arV x) u123 u124 u125 u126 u127 u128 u129 u130 u131 u132 u133 u134 u135 u136 u137 u138 u139 u140 u141 u142 u143 u144 u145 u146 u147 u148 u149 u150 u151 u152 u153 u154 u155 u156 u157 u158 u159 u160 u161 u162 u163 u164 q B0 b0 p3 kb a0 nb r _ w W1 N lnd nm L pre x ds hI hka han hrb hq hLz hpl hlt hx
    · exact tells2_over l _ u0 u1 u3 u4 u5 u8 u9 u10 u11 u13 u14 u15 u16 u17 u18 u19 u20 u21 u22 u23 u24 u25 u26 u27 u28 u29 u30 u31 u32 u33 u34 u35 u36 u37 u38 u39 u40 u41 u42 u43 u44 u45 u46 u47 u48 u49 u50 u51 u52 u53 u54 u55 u56 u57 u58 u59 u60 u61 u62 u63 u64 u65 u66 u67 u68 u69 u70 u71 u72 u73 u74 u75 u76 u77 u78 u79 u80 u81 u82 u83 u84 u85 u86 u87 u88 u89 u90 u91 u92 u93 u94 u95 u96 u97 u98 u99 u100 u101 u102 u103 u104 u105 u106 u107 u108 u109 u110 u111 u112 u113 u114 u115 u116 u117 u118 u119 u120 (.func (.func 34) #[] #[.pointer (some ⟨r, 0, none⟩)]) (arV x) u123 u124 u125 u126 u127 u128 u129 u130 u131 u132 u133 u134 u135 u136 u137 u138 u139 u140 u141 u142 u143 u144 u145 u146 u147 u148 u149 u150 u151 u152 u153 u154 u155 u156 u157 u158 u159 u160 u161 u162 u163 u164 q B0 b0 p3 kb a0 nb r _ w W1 N lnd nm L pre x ds hI hka han hrb hq hLz hpl (by omega)
  case done =>
    rintro D xs W1 hD rfl hI hK
    refine HQ.out D W1 ⟨hI.tb, hI.cnt, hI.want, hI.names, hI.pre, hI.marks.cons hml hK (by omega) hD, hI.lt⟩ ?_
    have := (Array.getElem?_eq_some_iff.1 hK).1
    omega
  case stop => exact fun D c pre W1 hD hS hI _ => (hI hS).elim
end Go.Proofs.YtggpffipijoddaaDoor
namespace Go.Proofs.YtggpffipijoddaaDoor
open Go Go.RowKit Go.Shelf
attribute [local go_sem] Oper.semAt_some

theorem wp_region_stillK {id : Nat} {P : Program} {Q : Exit → Act → World → Prop} {a : Act} {w : World} {l : List Oper} (hm : P.follows .mixedOrders = true) (hB : Region.lexB .any l.toArray = true)
    (h : ∀ Qx : Act → Prop, (∀ a', Q .normal a' w.drew → Qx a') → wpStill P l.toArray w.drew Qx l a) : (Code.region id l.toArray true).wp P Q a w :=
  wp_region_still_lit hm hB (h _ (fun _ h => h))
theorem nes_at {o : Oper} {ρ : Operand → Value} {w : World} (x y : Operand) (ho : o.op = .binOp .neq 9 x y 9) (a : ByteArray) (hx : ρ x = .string a) (hy : ρ y = .string a) : (execOp ρ o).run Tryd.prog w = .ok (.value (.bool false)) w := by
  unfold execOp
  simp only [ho, hx, hy]
  simp [go_sem]
set_option maxRecDepth 100000 in
set_option maxHeartbeats 4000000 in
theorem gots_round (u0 u1 u3 u4 u5 u6 u7 u9 u10 u11 u12 u15 u16 u17 u18 u19 u20 u21 u22 u23 u24 u25 u26 u27 u28 u29 u30 u31 u32 u33 u34 u35 u36 u37 u38 u39 u40 u41 u42 u43 u44 u45 u46 u47 u48 u49 u50 u51 u52 u53 u54 u55 u56 u57 u58 u59 u60 u61 u62 u63 u64 u65 u66 u67 u68 u69 u70 u71 u72 u73 u74 u75 u76 u77 u78 u79 u80 u81 u82 u83 u84 u85 u86 u87 u88 u89 u90 u91 u92 u93 u94 u95 u96 u97 u98 u99 u100 u101 u102 u103 u104 u105 u106 u107 u108 u109 u110 u111 u112 u113 u114 u115 u116 u117 u118 u119 u120 u121 u122 u123 u124 u125 u126 u127 u128 u129 u130 u131 u132 u133 u134 u135 u136 u137 u138 u139 u140 u141 u142 u143 u144 u145 u146 u147 u148 u149 u150 u151 u152 u153 u154 u155 u156 u157 u158 u159 u160 u161 u162 u163 u164 : Value) (i : Nat) (b0 pn len cap capg : Nat) (Aa Ag : Option Addr) (nm : List ByteArray) (ds : List Deferred) (W : World) (hln : nm.length = len) (hcn : W.cell? ⟨pn, 0, none⟩ = some (.slice Aa len cap)) (hrow : ∀ i (hi : i < nm.length), ∃ g, Aa = some ⟨g, 0, none⟩ ∧ W.cell? ⟨g, i, none⟩ = some (.string nm[i])) (hrowg : ∀ i (hi : i < nm.length), ∃ g, Ag = some ⟨g, 0, none⟩ ∧ W.cell? ⟨g, i, none⟩ = some (.string nm[i])) (hlen : len < 1000000) (hi : i < len) (K : Act → World → Prop) (Q : Exit → Act → World → Prop)
    (hK : ∀ (u0 u1 u3 u4 u5 u6 u7 u9 u10 u11 u12 u15 u16 u17 u18 u19 u20 u21 u22 u23 u24 u25 u26 u27 u28 u29 u30 u31 u32 u33 u34 u35 u36 u37 u38 u39 u40 u41 u42 u43 u44 u45 u46 u47 u48 u49 u50 u51 u52 u53 u54 u55 u56 u57 u58 u59 u60 u61 u62 u63 u64 u65 u66 u67 u68 u69 u70 u71 u72 u73 u74 u75 u76 u77 u78 u79 u80 u81 u82 u83 u84 u85 u86 u87 u88 u89 u90 u91 u92 u93 u94 u95 u96 u97 u98 u99 u100 u101 u102 u103 u104 u105 u106 u107 u108 u109 u110 u111 u112 u113 u114 u115 u116 u117 u118 u119 u120 u121 u122 u123 u124 u125 u126 u127 u128 u129 u130 u131 u132 u133 u134 u135 u136 u137 u138 u139 u140 u141 u142 u143 u144 u145 u146 u147 u148 u149 u150 u151 u152 u153 u154 u155 u156 u157 u158 u159 u160 u161 u162 u163 u164 : Value), K ⟨#[u0, u1, .pointer (some ⟨b0 + 1, 0, none⟩), u3, u4, u5, u6, u7, .pointer (some ⟨pn, 0, none⟩), u9, u10, u11, u12, .slice Ag len capg, .int .i64 (((i + 1 : Nat) : Int)), u15, u16, u17, u18, u19, u20, u21, u22, u23, u24, u25, u26, u27, u28, u29, u30, u31, u32, u33, u34, u35, u36, u37, u38, u39, u40, u41, u42, u43, u44, u45, u46, u47, u48, u49, u50, u51, u52, u53, u54, u55, u56, u57, u58, u59, u60, u61, u62, u63, u64, u65, u66, u67, u68, u69, u70, u71, u72, u73, u74, u75, u76, u77, u78, u79, u80, u81, u82, u83, u84, u85, u86, u87, u88, u89, u90, u91, u92, u93, u94, u95, u96, u97, u98, u99, u100, u101, u102, u103, u104, u105, u106, u107, u108, u109, u110, u111, u112, u113, u114, u115, u116, u117, u118, u119, u120, u121, u122, u123, u124, u125, u126, u127, u128, u129, u130, u131, u132, u133, u134, u135, u136, u137, u138, u139, u140, u141, u142, u143, u144, u145, u146, u147, u148, u149, u150, u151, u152, u153, u154, u155, u156, u157, u158, u159, u160, u161, u162, u163, u164], ds⟩ W.drew) :
    (lpBody (lp1 (fromRegion 37 tellsC))).wp Tryd.prog (Exit.then K Q) ⟨#[u0, u1, .pointer (some ⟨b0 + 1, 0, none⟩), u3, u4, u5, u6, u7, .pointer (some ⟨pn, 0, none⟩), u9, u10, u11, u12, .slice Ag len capg, .int .i64 (i), u15, u16, u17, u18, u19, u20, u21, u22, u23, u24, u25, u26, u27, u28, u29, u30, u31, u32, u33, u34, u35, u36, u37, u38, u39, u40, u41, u42, u43, u44, u45, u46, u47, u48, u49, u50, u51, u52, u53, u54, u55, u56, u57, u58, u59, u60, u61, u62, u63, u64, u65, u66, u67, u68, u69, u70, u71, u72, u73, u74, u75, u76, u77, u78, u79, u80, u81, u82, u83, u84, u85, u86, u87, u88, u89, u90, u91, u92, u93, u94, u95, u96, u97, u98, u99, u100, u101, u102, u103, u104, u105, u106, u107, u108, u109, u110, u111, u112, u113, u114, u115, u116, u117, u118, u119, u120, u121, u122, u123, u124, u125, u126, u127, u128, u129, u130, u131, u132, u133, u134, u135, u136, u137, u138, u139, u140, u141, u142, u143, u144, u145, u146, u147, u148, u149, u150, u151, u152, u153, u154, u155, u156, u157, u158, u159, u160, u161, u162, u163, u164], ds⟩ W := by
  dsimp only at hK
  dsimp only
  conv => arg 2; whnf
  obtain ⟨g, hAa, hni⟩ := hrow i (by omega)
  obtain ⟨gg, hAg, hgi⟩ := hrowg i (by omega)
  have HK := Lib.hid hK
  obtain ⟨ni, hnie⟩ : ∃ ni, ni = nm[i]'(by omega) := ⟨_, rfl⟩
  rw [← hnie] at hni hgi
  have hlt1 : (i : Int) < len := by omega
  have hl63 : len ≤ 9223372036854775807 := by omega
  have hov : (i : Int) + 1 ≤ 9223372036854775807 := by omega
  have HHI := Lib.hid hi
  have HHN := Lib.hid hni
  have HHG := Lib.hid hgi
  have HAA := Lib.hid hAa
  have HAG := Lib.hid hAg
  have HHC := Lib.hid hcn
  clear hrow hrowg hK hnie hni hgi hAa hAg hi hlen hln
  go_upto_region 43 with (fail)
  have hi := HHI.out
  have hni := HHN.out
  have hgi := HHG.out
  generalize hf0 : Act.mk _ _ = f0
  refine wp_region_stillK (by kernel_rfl) (by kernel_rfl) (fun Qx hQx => ?_)
  refine still_one (.slice Ag len capg) (by rw [← hf0]; kernel_rfl) (by rw [← hf0]; kernel_rfl) (fun f1 h1 => ?_)
  refine still_one (.int .i64 i) (by rw [h1, ← hf0]; kernel_rfl) (by rw [h1, ← hf0]; kernel_rfl) (fun f2 h2 => ?_)
  refine still_one (.pointer (some ⟨gg, i, none⟩)) (by rw [h2, h1, ← hf0]; kernel_rfl) (ix_atS _ _ rfl gg len capg i (by rw [h2, h1, ← hf0, HAG.out]; kernel_rfl) (by rw [h2, h1, ← hf0]; kernel_rfl) hi) (fun f3 h3 => ?_)
  refine still_one (.string ni) (by rw [h3, h2, h1, ← hf0]; kernel_rfl) (ld_str _ rfl ⟨gg, i, none⟩ (by rw [h3, h2, h1, ← hf0]; kernel_rfl) _ hgi) (fun f4 h4 => ?_)
  refine still_one (.slice Aa len cap) (by rw [h4, h3, h2, h1, ← hf0]; kernel_rfl) (ld_ss _ rfl ⟨pn, 0, none⟩ (by rw [h4, h3, h2, h1, ← hf0]; kernel_rfl) _ hcn) (fun f5 h5 => ?_)
  refine still_one (.int .i64 i) (by rw [h5, h4, h3, h2, h1, ← hf0]; kernel_rfl) (by rw [h5, h4, h3, h2, h1, ← hf0]; kernel_rfl) (fun f6 h6 => ?_)
  refine still_one (.pointer (some ⟨g, i, none⟩)) (by rw [h6, h5, h4, h3, h2, h1, ← hf0]; kernel_rfl) (ix_atS _ _ rfl g len cap i (by rw [h6, h5, h4, h3, h2, h1, ← hf0, HAA.out]; kernel_rfl) (by rw [h6, h5, h4, h3, h2, h1, ← hf0]; kernel_rfl) hi) (fun f7 h7 => ?_)
  refine still_one (.string ni) (by rw [h7, h6, h5, h4, h3, h2, h1, ← hf0]; kernel_rfl) (ld_str _ rfl ⟨g, i, none⟩ (by rw [h7, h6, h5, h4, h3, h2, h1, ← hf0]; kernel_rfl) _ hni) (fun f8 h8 => ?_)
  refine still_one (.bool false) (by rw [h8, h7, h6, h5, h4, h3, h2, h1, ← hf0]; kernel_rfl) (nes_at _ _ rfl ni (by rw [h8, h7, h6, h5, h4, h3, h2, h1, ← hf0]; kernel_rfl) (by rw [h8, h7, h6, h5, h4, h3, h2, h1, ← hf0]; kernel_rfl)) (fun f9 h9 => ?_)
  refine wpStill_nil (hQx _ ?_)
  have hf9 : f9 = ⟨#[u0, u1, .pointer (some ⟨b0 + 1, 0, none⟩), u3, u4, u5, u6, u7, .pointer (some ⟨pn, 0, none⟩), u9, u10, u11, u12, .slice Ag len capg, .int .i64 (i), u15, u16, u17, u18, u19, u20, u21, u22, u23, u24, u25, u26, u27, u28, u29, u30, u31, u32, u33, u34, u35, u36, u37, u38, u39, u40, u41, u42, u43, u44, u45, u46, u47, u48, u49, u50, u51, u52, u53, u54, u55, u56, u57, u58, u59, u60, u61, u62, u63, u64, u65, u66, u67, u68, u69, u70, u71, u72, u73, u74, u75, u76, u77, u78, u79, u80, u81, u82, u83, u84, u85, u86, u87, u88, u89, u90, u91, u92, u93, u94, u95, u96, u97, u98, u99, u100, u101, u102, u103, u104, u105, u106, u107, u108, u109, u110, u111, u112, u113, u114, u115, u116, u117, u118, u119, u120, u121, u122, u123, u124, u125, u126, u127, u128, u129, u130, u131, u132, u133, u134, u135, u136, u137, u138, u139, u140, u141, u142, u143, u144, u145, u146, u147, u148, u149, .int .i64 i, .slice Aa len cap, .int .i64 len, .bool true, u154, u155, .slice Ag len capg, .int .i64 i, .pointer (some ⟨gg, i, none⟩), .string ni, .slice Aa len cap, .int .i64 i, .pointer (some ⟨g, i, none⟩), .string ni, .bool false], ds⟩ := by rw [h9, h8, h7, h6, h5, h4, h3, h2, h1, ← hf0]; kernel_rfl
  dsimp only at hf9
  rw [hf9]
  clear hf9 h9 h8 h7 h6 h5 h4 h3 h2 h1 hf0 hQx f9 f8 f7 f6 f5 f4 f3 f2 f1 f0 Qx
  clear hi hni hgi hcn
  go_wp2
  have e3 : (i : Int) + 1 = ((i + 1 : Nat) : Int) := by omega
  rw [e3]
  exact HK.out _ _ _ _ _ _ _ _ _ _ _ _ _ _ _ _ _ _ _ _ _ _ _ _ _ _ _ _ _ _ _ _ _ _ _ _ _ _ _ _ _ _ _ _ _ _ _ _ _ _ _ _ _ _ _ _ _ _ _ _ _ _ _ _ _ _ _ _ _ _ _ _ _ _ _ _ _ _ _ _ _ _ _ _ _ _ _ _ _ _ _ _ _ _ _ _ _ _ _ _ _ _ _ _ _ _ _ _ _ _ _ _ _ _ _ _ _ _ _ _ _ _ _ _ _ _ _ _ _ _ _ _ _ _ _ _ _ _ _ _ _ _ _ _ _ _ _ _ _ _ _ _ _ _ _ _ _ _ _ _ _

set_option maxRecDepth 100000 in
set_option maxHeartbeats 4000000 in
theorem gots_exit (u0 u1 u3 u4 u5 u6 u7 u9 u10 u11 u12 u15 u16 u17 u18 u19 u20 u21 u22 u23 u24 u25 u26 u27 u28 u29 u30 u31 u32 u33 u34 u35 u36 u37 u38 u39 u40 u41 u42 u43 u44 u45 u46 u47 u48 u49 u50 u51 u52 u53 u54 u55 u56 u57 u58 u59 u60 u61 u62 u63 u64 u65 u66 u67 u68 u69 u70 u71 u72 u73 u74 u75 u76 u77 u78 u79 u80 u81 u82 u83 u84 u85 u86 u87 u88 u89 u90 u91 u92 u93 u94 u95 u96 u97 u98 u99 u100 u101 u102 u103 u104 u105 u106 u107 u108 u109 u110 u111 u112 u113 u114 u115 u116 u117 u118 u119 u120 u121 u122 u123 u124 u125 u126 u127 u128 u129 u130 u131 u132 u133 u134 u135 u136 u137 u138 u139 u140 u141 u142 u143 u144 u145 u146 u147 u148 u149 u150 u151 u152 u153 u154 u155 u156 u157 u158 u159 u160 u161 u162 u163 u164 : Value) (i : Nat) (b0 pn len cap capg : Nat) (Aa Ag : Option Addr) (nm : List ByteArray) (ds : List Deferred) (W : World) (hln : nm.length = len) (hcn : W.cell? ⟨pn, 0, none⟩ = some (.slice Aa len cap)) (_hrow : ∀ i (hi : i < nm.length), ∃ g, Aa = some ⟨g, 0, none⟩ ∧ W.cell? ⟨g, i, none⟩ = some (.string nm[i])) (_hrowg : ∀ i (hi : i < nm.length), ∃ g, Ag = some ⟨g, 0, none⟩ ∧ W.cell? ⟨g, i, none⟩ = some (.string nm[i])) (hlen : len < 1000000) (hi : i = len) (K : Act → World → Prop) (Q : Exit → Act → World → Prop)
    (hQ : ∀ (u0 u1 u3 u4 u5 u6 u7 u9 u10 u11 u12 u15 u16 u17 u18 u19 u20 u21 u22 u23 u24 u25 u26 u27 u28 u29 u30 u31 u32 u33 u34 u35 u36 u37 u38 u39 u40 u41 u42 u43 u44 u45 u46 u47 u48 u49 u50 u51 u52 u53 u54 u55 u56 u57 u58 u59 u60 u61 u62 u63 u64 u65 u66 u67 u68 u69 u70 u71 u72 u73 u74 u75 u76 u77 u78 u79 u80 u81 u82 u83 u84 u85 u86 u87 u88 u89 u90 u91 u92 u93 u94 u95 u96 u97 u98 u99 u100 u101 u102 u103 u104 u105 u106 u107 u108 u109 u110 u111 u112 u113 u114 u115 u116 u117 u118 u119 u120 u121 u122 u123 u124 u125 u126 u127 u128 u129 u130 u131 u132 u133 u134 u135 u136 u137 u138 u139 u140 u141 u142 u143 u144 u145 u146 u147 u148 u149 u150 u151 u152 u153 u154 u155 u156 u157 u158 u159 u160 u161 u162 u163 u164 : Value), Q (.exit 6) ⟨#[u0, u1, .pointer (some ⟨b0 + 1, 0, none⟩), u3, u4, u5, u6, u7, .pointer (some ⟨pn, 0, none⟩), u9, u10, u11, u12, .slice Ag len capg, .int .i64 (i), u15, u16, u17, u18, u19, u20, u21, u22, u23, u24, u25, u26, u27, u28, u29, u30, u31, u32, u33, u34, u35, u36, u37, u38, u39, u40, u41, u42, u43, u44, u45, u46, u47, u48, u49, u50, u51, u52, u53, u54, u55, u56, u57, u58, u59, u60, u61, u62, u63, u64, u65, u66, u67, u68, u69, u70, u71, u72, u73, u74, u75, u76, u77, u78, u79, u80, u81, u82, u83, u84, u85, u86, u87, u88, u89, u90, u91, u92, u93, u94, u95, u96, u97, u98, u99, u100, u101, u102, u103, u104, u105, u106, u107, u108, u109, u110, u111, u112, u113, u114, u115, u116, u117, u118, u119, u120, u121, u122, u123, u124, u125, u126, u127, u128, u129, u130, u131, u132, u133, u134, u135, u136, u137, u138, u139, u140, u141, u142, u143, u144, u145, u146, u147, u148, u149, u150, u151, u152, u153, u154, u155, u156, u157, u158, u159, u160, u161, u162, u163, u164], ds⟩ W) :
    (lpBody (lp1 (fromRegion 37 tellsC))).wp Tryd.prog (Exit.then K Q) ⟨#[u0, u1, .pointer (some ⟨b0 + 1, 0, none⟩), u3, u4, u5, u6, u7, .pointer (some ⟨pn, 0, none⟩), u9, u10, u11, u12, .slice Ag len capg, .int .i64 (i), u15, u16, u17, u18, u19, u20, u21, u22, u23, u24, u25, u26, u27, u28, u29, u30, u31, u32, u33, u34, u35, u36, u37, u38, u39, u40, u41, u42, u43, u44, u45, u46, u47, u48, u49, u50, u51, u52, u53, u54, u55, u56, u57, u58, u59, u60, u61, u62, u63, u64, u65, u66, u67, u68, u69, u70, u71, u72, u73, u74, u75, u76, u77, u78, u79, u80, u81, u82, u83, u84, u85, u86, u87, u88, u89, u90, u91, u92, u93, u94, u95, u96, u97, u98, u99, u100, u101, u102, u103, u104, u105, u106, u107, u108, u109, u110, u111, u112, u113, u114, u115, u116, u117, u118, u119, u120, u121, u122, u123, u124, u125, u126, u127, u128, u129, u130, u131, u132, u133, u134, u135, u136, u137, u138, u139, u140, u141, u142, u143, u144, u145, u146, u147, u148, u149, u150, u151, u152, u153, u154, u155, u156, u157, u158, u159, u160, u161, u162, u163, u164], ds⟩ W := by
  dsimp only at hQ
  dsimp only
  conv => arg 2; whnf
  have HQ := Lib.hid hQ
  subst hi
  have hl63 : i ≤ 9223372036854775807 := by omega
  clear _hrow _hrowg hQ hln hlen
  go_wp2
  exact HQ.out _ _ _ _ _ _ _ _ _ _ _ _ _ _ _ _ _ _ _ _ _ _ _ _ _ _ _ _ _ _ _ _ _ _ _ _ _ _ _ _ _ _ _ _ _ _ _ _ _ _ _ _ _ _ _ _ _ _ _ _ _ _ _ _ _ _ _ _ _ _ _ _ _ _ _ _ _ _ _ _ _ _ _ _ _ _ _ _ _ _ _ _ _ _ _ _ _ _ _ _ _ _ _ _ _ _ _ _ _ _ _ _ _ _ _ _ _ _ _ _ _ _ _ _ _ _ _ _ _ _ _ _ _ _ _ _ _ _ _ _ _ _ _ _ _ _ _ _ _ _ _ _ _ _ _ _ _ _ _ _ _

set_option maxRecDepth 100000 in
set_option maxHeartbeats 4000000 in
theorem gots_loop (u0 u1 u3 u4 u5 u6 u7 u9 u10 u11 u12 u15 u16 u17 u18 u19 u20 u21 u22 u23 u24 u25 u26 u27 u28 u29 u30 u31 u32 u33 u34 u35 u36 u37 u38 u39 u40 u41 u42 u43 u44 u45 u46 u47 u48 u49 u50 u51 u52 u53 u54 u55 u56 u57 u58 u59 u60 u61 u62 u63 u64 u65 u66 u67 u68 u69 u70 u71 u72 u73 u74 u75 u76 u77 u78 u79 u80 u81 u82 u83 u84 u85 u86 u87 u88 u89 u90 u91 u92 u93 u94 u95 u96 u97 u98 u99 u100 u101 u102 u103 u104 u105 u106 u107 u108 u109 u110 u111 u112 u113 u114 u115 u116 u117 u118 u119 u120 u121 u122 u123 u124 u125 u126 u127 u128 u129 u130 u131 u132 u133 u134 u135 u136 u137 u138 u139 u140 u141 u142 u143 u144 u145 u146 u147 u148 u149 u150 u151 u152 u153 u154 u155 u156 u157 u158 u159 u160 u161 u162 u163 u164 : Value) (b0 pn len cap capg : Nat) (Aa Ag : Option Addr) (nm : List ByteArray) (ds : List Deferred) (W : World) (hln : nm.length = len) (hcn : W.cell? ⟨pn, 0, none⟩ = some (.slice Aa len cap)) (hrow : ∀ i (hi : i < nm.length), ∃ g, Aa = some ⟨g, 0, none⟩ ∧ W.cell? ⟨g, i, none⟩ = some (.string nm[i])) (hrowg : ∀ i (hi : i < nm.length), ∃ g, Ag = some ⟨g, 0, none⟩ ∧ W.cell? ⟨g, i, none⟩ = some (.string nm[i])) (hlen : len < 1000000) (Q : Exit → Act → World → Prop)
    (hQ : ∀ (u0 u1 u3 u4 u5 u6 u7 u9 u10 u11 u12 u15 u16 u17 u18 u19 u20 u21 u22 u23 u24 u25 u26 u27 u28 u29 u30 u31 u32 u33 u34 u35 u36 u37 u38 u39 u40 u41 u42 u43 u44 u45 u46 u47 u48 u49 u50 u51 u52 u53 u54 u55 u56 u57 u58 u59 u60 u61 u62 u63 u64 u65 u66 u67 u68 u69 u70 u71 u72 u73 u74 u75 u76 u77 u78 u79 u80 u81 u82 u83 u84 u85 u86 u87 u88 u89 u90 u91 u92 u93 u94 u95 u96 u97 u98 u99 u100 u101 u102 u103 u104 u105 u106 u107 u108 u109 u110 u111 u112 u113 u114 u115 u116 u117 u118 u119 u120 u121 u122 u123 u124 u125 u126 u127 u128 u129 u130 u131 u132 u133 u134 u135 u136 u137 u138 u139 u140 u141 u142 u143 u144 u145 u146 u147 u148 u149 u150 u151 u152 u153 u154 u155 u156 u157 u158 u159 u160 u161 u162 u163 u164 : Value) (W' : World), Ch (fun _ => False) W W' → Q (.exit 6) ⟨#[u0, u1, .pointer (some ⟨b0 + 1, 0, none⟩), u3, u4, u5, u6, u7, .pointer (some ⟨pn, 0, none⟩), u9, u10, u11, u12, .slice Ag len capg, .int .i64 (len), u15, u16, u17, u18, u19, u20, u21, u22, u23, u24, u25, u26, u27, u28, u29, u30, u31, u32, u33, u34, u35, u36, u37, u38, u39, u40, u41, u42, u43, u44, u45, u46, u47, u48, u49, u50, u51, u52, u53, u54, u55, u56, u57, u58, u59, u60, u61, u62, u63, u64, u65, u66, u67, u68, u69, u70, u71, u72, u73, u74, u75, u76, u77, u78, u79, u80, u81, u82, u83, u84, u85, u86, u87, u88, u89, u90, u91, u92, u93, u94, u95, u96, u97, u98, u99, u100, u101, u102, u103, u104, u105, u106, u107, u108, u109, u110, u111, u112, u113, u114, u115, u116, u117, u118, u119, u120, u121, u122, u123, u124, u125, u126, u127, u128, u129, u130, u131, u132, u133, u134, u135, u136, u137, u138, u139, u140, u141, u142, u143, u144, u145, u146, u147, u148, u149, u150, u151, u152, u153, u154, u155, u156, u157, u158, u159, u160, u161, u162, u163, u164], ds⟩ W') :
    (lp1 (fromRegion 37 tellsC)).wp Tryd.prog Q ⟨#[u0, u1, .pointer (some ⟨b0 + 1, 0, none⟩), u3, u4, u5, u6, u7, .pointer (some ⟨pn, 0, none⟩), u9, u10, u11, u12, .slice Ag len capg, .int .i64 (0), u15, u16, u17, u18, u19, u20, u21, u22, u23, u24, u25, u26, u27, u28, u29, u30, u31, u32, u33, u34, u35, u36, u37, u38, u39, u40, u41, u42, u43, u44, u45, u46, u47, u48, u49, u50, u51, u52, u53, u54, u55, u56, u57, u58, u59, u60, u61, u62, u63, u64, u65, u66, u67, u68, u69, u70, u71, u72, u73, u74, u75, u76, u77, u78, u79, u80, u81, u82, u83, u84, u85, u86, u87, u88, u89, u90, u91, u92, u93, u94, u95, u96, u97, u98, u99, u100, u101, u102, u103, u104, u105, u106, u107, u108, u109, u110, u111, u112, u113, u114, u115, u116, u117, u118, u119, u120, u121, u122, u123, u124, u125, u126, u127, u128, u129, u130, u131, u132, u133, u134, u135, u136, u137, u138, u139, u140, u141, u142, u143, u144, u145, u146, u147, u148, u149, u150, u151, u152, u153, u154, u155, u156, u157, u158, u159, u160, u161, u162, u163, u164], ds⟩ W := by
  dsimp only at hQ
  dsimp only
  conv => arg 2; whnf
  refine wp_loop_ghost (fun k a' W' => ∃ (i : Nat) (u : Nat → Value), k = len - i ∧ i ≤ len ∧ a' = ⟨#[u 0, u 1, .pointer (some ⟨b0 + 1, 0, none⟩), u 3, u 4, u 5, u 6, u 7, .pointer (some ⟨pn, 0, none⟩), u 9, u 10, u 11, u 12, .slice Ag len capg, .int .i64 (i), u 15, u 16, u 17, u 18, u 19, u 20, u 21, u 22, u 23, u 24, u 25, u 26, u 27, u 28, u 29, u 30, u 31, u 32, u 33, u 34, u 35, u 36, u 37, u 38, u 39, u 40, u 41, u 42, u 43, u 44, u 45, u 46, u 47, u 48, u 49, u 50, u 51, u 52, u 53, u 54, u 55, u 56, u 57, u 58, u 59, u 60, u 61, u 62, u 63, u 64, u 65, u 66, u 67, u 68, u 69, u 70, u 71, u 72, u 73, u 74, u 75, u 76, u 77, u 78, u 79, u 80, u 81, u 82, u 83, u 84, u 85, u 86, u 87, u 88, u 89, u 90, u 91, u 92, u 93, u 94, u 95, u 96, u 97, u 98, u 99, u 100, u 101, u 102, u 103, u 104, u 105, u 106, u 107, u 108, u 109, u 110, u 111, u 112, u 113, u 114, u 115, u 116, u 117, u 118, u 119, u 120, u 121, u 122, u 123, u 124, u 125, u 126, u 127, u 128, u 129, u 130, u 131, u 132, u 133, u 134, u 135, u 136, u 137, u 138, u 139, u 140, u 141, u 142, u 143, u 144, u 145, u 146, u 147, u 148, u 149, u 150, u 151, u 152, u 153, u 154, u 155, u 156, u 157, u 158, u 159, u 160, u 161, u 162, u 163, u 164], ds⟩ ∧ Ch (fun _ => False) W W') len ⟨0, fun j => (#[u0, u1, undef, u3, u4, u5, u6, u7, undef, u9, u10, u11, u12, undef, undef, u15, u16, u17, u18, u19, u20, u21, u22, u23, u24, u25, u26, u27, u28, u29, u30, u31, u32, u33, u34, u35, u36, u37, u38, u39, u40, u41, u42, u43, u44, u45, u46, u47, u48, u49, u50, u51, u52, u53, u54, u55, u56, u57, u58, u59, u60, u61, u62, u63, u64, u65, u66, u67, u68, u69, u70, u71, u72, u73, u74, u75, u76, u77, u78, u79, u80, u81, u82, u83, u84, u85, u86, u87, u88, u89, u90, u91, u92, u93, u94, u95, u96, u97, u98, u99, u100, u101, u102, u103, u104, u105, u106, u107, u108, u109, u110, u111, u112, u113, u114, u115, u116, u117, u118, u119, u120, u121, u122, u123, u124, u125, u126, u127, u128, u129, u130, u131, u132, u133, u134, u135, u136, u137, u138, u139, u140, u141, u142, u143, u144, u145, u146, u147, u148, u149, u150, u151, u152, u153, u154, u155, u156, u157, u158, u159, u160, u161, u162, u163, u164] : Array Value).getD j undef, by omega, by omega, rfl, Ch.refl _ _⟩ ?_
  rintro k a' W' ⟨i, u, rfl, hi, rfl, hc⟩
  have hcell : ∀ p v, W.cell? p = some v → W'.cell? p = some v := fun p v h => (World.cell?_of_block (hc.same p.block (cell_lt h) (fun h => h))).trans h
  have hrow' : ∀ i (hi : i < nm.length), ∃ g, Aa = some ⟨g, 0, none⟩ ∧ W'.cell? ⟨g, i, none⟩ = some (.string nm[i]) := fun i hi => by
    obtain ⟨g, h1, h2⟩ := hrow i hi
    exact ⟨g, h1, hcell _ _ h2⟩
  have hrowg' : ∀ i (hi : i < nm.length), ∃ g, Ag = some ⟨g, 0, none⟩ ∧ W'.cell? ⟨g, i, none⟩ = some (.string nm[i]) := fun i hi => by
    obtain ⟨g, h1, h2⟩ := hrowg i hi
    exact ⟨g, h1, hcell _ _ h2⟩
  by_cases hlt : i < len
  · refine gots_round (u 0) (u 1) (u 3) (u 4) (u 5) (u 6) (u 7) (u 9) (u 10) (u 11) (u 12) (u 15) (u 16) (u 17) (u 18) (u 19) (u 20) (u 21) (u 22) (u 23) (u 24) (u 25) (u 26) (u 27) (u 28) (u 29) (u 30) (u 31) (u 32) (u 33) (u 34) (u 35) (u 36) (u 37) (u 38) (u 39) (u 40) (u 41) (u 42) (u 43) (u 44) (u 45) (u 46) (u 47) (u 48) (u 49) (u 50) (u 51) (u 52) (u 53) (u 54) (u 55) (u 56) (u 57) (u 58) (u 59) (u 60) (u 61) (u 62) (u 63) (u 64) (u 65) (u 66) (u 67) (u 68) (u 69) (u 70) (u 71) (u 72) (u 73) (u 74) (u 75) (u 76) (u 77) (u 78) (u 79) (u 80) (u 81) (u 82) (u 83) (u 84) (u 85) (u 86) (u 87) (u 88) (u 89) (u 90) (u 91) (u 92) (u 93) (u 94) (u 95) (u 96) (u 97) (u 98) (u 99) (u 100) (u 101) (u 102) (u 103) (u 104) (u 105) (u 106) (u 107) (u 108) (u 109) (u 110) (u 111) (u 112) (u 113) (u 114) (u 115) (u 116) (u 117) (u 118) (u 119) (u 120) (u 121) (u 122) (u 123) (u 124) (u 125) (u 126) (u 127) (u 128) (u 129) (u 130) (u 131) (u 132) (u 133) (u 134) (u 135) (u 136) (u 137) (u 138) (u 139) (u 140) (u 141) (u 142) (u 143) (u 144) (u 145) (u 146) (u 147) (u 148) (u 149) (u 150) (u 151) (u 152) (u 153) (u 154) (u 155) (u 156) (u 157) (u 158) (u 159) (u 160) (u 161) (u 162) (u 163) (u 164) i b0 pn len cap capg Aa Ag nm ds W' hln (hcell _ _ hcn) hrow' hrowg' hlen hlt _ Q ?_
    intro u0 u1 u3 u4 u5 u6 u7 u9 u10 u11 u12 u15 u16 u17 u18 u19 u20 u21 u22 u23 u24 u25 u26 u27 u28 u29 u30 u31 u32 u33 u34 u35 u36 u37 u38 u39 u40 u41 u42 u43 u44 u45 u46 u47 u48 u49 u50 u51 u52 u53 u54 u55 u56 u57 u58 u59 u60 u61 u62 u63 u64 u65 u66 u67 u68 u69 u70 u71 u72 u73 u74 u75 u76 u77 u78 u79 u80 u81 u82 u83 u84 u85 u86 u87 u88 u89 u90 u91 u92 u93 u94 u95 u96 u97 u98 u99 u100 u101 u102 u103 u104 u105 u106 u107 u108 u109 u110 u111 u112 u113 u114 u115 u116 u117 u118 u119 u120 u121 u122 u123 u124 u125 u126 u127 u128 u129 u130 u131 u132 u133 u134 u135 u136 u137 u138 u139 u140 u141 u142 u143 u144 u145 u146 u147 u148 u149 u150 u151 u152 u153 u154 u155 u156 u157 u158 u159 u160 u161 u162 u163 u164
    exact ⟨len - (i + 1), by omega, i + 1, fun j => (#[u0, u1, undef, u3, u4, u5, u6, u7, undef, u9, u10, u11, u12, undef, undef, u15, u16, u17, u18, u19, u20, u21, u22, u23, u24, u25, u26, u27, u28, u29, u30, u31, u32, u33, u34, u35, u36, u37, u38, u39, u40, u41, u42, u43, u44, u45, u46, u47, u48, u49, u50, u51, u52, u53, u54, u55, u56, u57, u58, u59, u60, u61, u62, u63, u64, u65, u66, u67, u68, u69, u70, u71, u72, u73, u74, u75, u76, u77, u78, u79, u80, u81, u82, u83, u84, u85, u86, u87, u88, u89, u90, u91, u92, u93, u94, u95, u96, u97, u98, u99, u100, u101, u102, u103, u104, u105, u106, u107, u108, u109, u110, u111, u112, u113, u114, u115, u116, u117, u118, u119, u120, u121, u122, u123, u124, u125, u126, u127, u128, u129, u130, u131, u132, u133, u134, u135, u136, u137, u138, u139, u140, u141, u142, u143, u144, u145, u146, u147, u148, u149, u150, u151, u152, u153, u154, u155, u156, u157, u158, u159, u160, u161, u162, u163, u164] : Array Value).getD j undef, rfl, by omega, rfl, hc.drew⟩
  · have hie : i = len := by omega
    refine gots_exit (u 0) (u 1) (u 3) (u 4) (u 5) (u 6) (u 7) (u 9) (u 10) (u 11) (u 12) (u 15) (u 16) (u 17) (u 18) (u 19) (u 20) (u 21) (u 22) (u 23) (u 24) (u 25) (u 26) (u 27) (u 28) (u 29) (u 30) (u 31) (u 32) (u 33) (u 34) (u 35) (u 36) (u 37) (u 38) (u 39) (u 40) (u 41) (u 42) (u 43) (u 44) (u 45) (u 46) (u 47) (u 48) (u 49) (u 50) (u 51) (u 52) (u 53) (u 54) (u 55) (u 56) (u 57) (u 58) (u 59) (u 60) (u 61) (u 62) (u 63) (u 64) (u 65) (u 66) (u 67) (u 68) (u 69) (u 70) (u 71) (u 72) (u 73) (u 74) (u 75) (u 76) (u 77) (u 78) (u 79) (u 80) (u 81) (u 82) (u 83) (u 84) (u 85) (u 86) (u 87) (u 88) (u 89) (u 90) (u 91) (u 92) (u 93) (u 94) (u 95) (u 96) (u 97) (u 98) (u 99) (u 100) (u 101) (u 102) (u 103) (u 104) (u 105) (u 106) (u 107) (u 108) (u 109) (u 110) (u 111) (u 112) (u 113) (u 114) (u 115) (u 116) (u 117) (u 118) (u 119) (u 120) (u 121) (u 122) (u 123) (u 124) (u 125) (u 126) (u 127) (u 128) (u 129) (u 130) (u 131) (u 132) (u 133) (u 134) (u 135) (u 136) (u 137) (u 138) (u 139) (u 140) (u 141) (u 142) (u 143) (u 144) (u 145) (u 146) (u 147) (u 148) (u 149) (u 150) (u 151) (u 152) (u 153) (u 154) (u 155) (u 156) (u 157) (u 158) (u 159) (u 160) (u 161) (u 162) (u 163) (u 164) i b0 pn len cap capg Aa Ag nm ds W' hln (hcell _ _ hcn) hrow' hrowg' hlen hie _ Q ?_
    intro u0 u1 u3 u4 u5 u6 u7 u9 u10 u11 u12 u15 u16 u17 u18 u19 u20 u21 u22 u23 u24 u25 u26 u27 u28 u29 u30 u31 u32 u33 u34 u35 u36 u37 u38 u39 u40 u41 u42 u43 u44 u45 u46 u47 u48 u49 u50 u51 u52 u53 u54 u55 u56 u57 u58 u59 u60 u61 u62 u63 u64 u65 u66 u67 u68 u69 u70 u71 u72 u73 u74 u75 u76 u77 u78 u79 u80 u81 u82 u83 u84 u85 u86 u87 u88 u89 u90 u91 u92 u93 u94 u95 u96 u97 u98 u99 u100 u101 u102 u103 u104 u105 u106 u107 u108 u109 u110 u111 u112 u113 u114 u115 u116 u117 u118 u119 u120 u121 u122 u123 u124 u125 u126 u127 u128 u129 u130 u131 u132 u133 u134 u135 u136 u137 u138 u139 u140 u141 u142 u143 u144 u145 u146 u147 u148 u149 u150 u151 u152 u153 u154 u155 u156 u157 u158 u159 u160 u161 u162 u163 u164
    rw [hie]
    exact hQ u0 u1 u3 u4 u5 u6 u7 u9 u10 u11 u12 u15 u16 u17 u18 u19 u20 u21 u22 u23 u24 u25 u26 u27 u28 u29 u30 u31 u32 u33 u34 u35 u36 u37 u38 u39 u40 u41 u42 u43 u44 u45 u46 u47 u48 u49 u50 u51 u52 u53 u54 u55 u56 u57 u58 u59 u60 u61 u62 u63 u64 u65 u66 u67 u68 u69 u70 u71 u72 u73 u74 u75 u76 u77 u78 u79 u80 u81 u82 u83 u84 u85 u86 u87 u88 u89 u90 u91 u92 u93 u94 u95 u96 u97 u98 u99 u100 u101 u102 u103 u104 u105 u106 u107 u108 u109 u110 u111 u112 u113 u114 u115 u116 u117 u118 u119 u120 u121 u122 u123 u124 u125 u126 u127 u128 u129 u130 u131 u132 u133 u134 u135 u136 u137 u138 u139 u140 u141 u142 u143 u144 u145 u146 u147 u148 u149 u150 u151 u152 u153 u154 u155 u156 u157 u158 u159 u160 u161 u162 u163 u164 W' hc
end Go.Proofs.YtggpffipijoddaaDoor
