/- TreeTells: what stands in memory. TreeTells: region 16 of the range over all nodes. TreeTells: regions 18 and 19 of the range over all nodes. -/
import Derived.Test.YtggpffipijoddaaDoorVaM
import Derived.Test.YtggpffipijoddaaDoorNaNbNc
import Derived.Test.YtggpffipijoddaaDoorSrSqSt
import Derived.Test.YtggpffipijoddaaDoorYdYeYf
namespace Go.Proofs.YtggpffipijoddaaDoor
open Go Go.RowKit Go.Shelf

/-- W' is W but for the blocks of X, and for new ones. -/
structure Ch (X : Nat → Prop) (W W' : World) : Prop where
  os : W'.os = W.os
  tape : W'.tape = W.tape
  output : W'.output = W.output
  size : W.heap.size ≤ W'.heap.size
  same : ∀ j, j < W.heap.size → ¬ X j → W'.heap[j]? = W.heap[j]?
theorem Ch.refl (X : Nat → Prop) (W : World) : Ch X W W := ⟨rfl, rfl, rfl, Nat.le_refl _, fun _ _ _ => rfl⟩
theorem Ch.drew {X : Nat → Prop} {W W' : World} (h : Ch X W W') : Ch X W W'.drew := ⟨h.os, h.tape, h.output, h.size, h.same⟩
theorem Ch.mono {X Y : Nat → Prop} {W W' : World} (h : Ch X W W') (hXY : ∀ j, X j → Y j) : Ch Y W W' := ⟨h.os, h.tape, h.output, h.size, fun j hj hn => h.same j hj (fun hx => hn (hXY j hx))⟩
theorem Ch.trans {X : Nat → Prop} {A B C : World} (h : Ch X A B) (k : Ch X B C) : Ch X A C :=
  ⟨k.os.trans h.os, k.tape.trans h.tape, k.output.trans h.output, Nat.le_trans h.size k.size, fun j hj hn => (k.same j (Nat.lt_of_lt_of_le hj h.size) hn).trans (h.same j hj hn)⟩
theorem Ch.grown {X : Nat → Prop} {W W' : World} {row : Option Nat} (hg : W.grownBy W' row) (hr : ∀ j, row = some j → X j) : Ch X W W' :=
  ⟨hg.os, hg.tape, hg.output, hg.size, fun j hj hn => hg.block j hj (fun e => hn (hr j e.symm))⟩
theorem Ch.alloc (X : Nat → Prop) (W : World) (o : Obj) : Ch X W (W.alloc o) := .grown (World.grownBy_alloc W o none) (fun _ e => by cases e)
theorem Ch.setCell {X : Nat → Prop} (W : World) (b : Nat) (v : Value) (h : X b) : Ch X W (W.setCell ⟨b, 0, none⟩ v) := .grown (grownBy_setCell' W b v) (fun j e => by cases e; exact h)
theorem Ch.below {X : Nat → Prop} {W W' : World} (h : Below W.heap.size W W') : Ch X W W' := .grown (grown_of_below h) (fun _ e => by cases e)
theorem Ch.put {X : Nat → Prop} {W W' : World} {B : Nat} {w : World} (h : Ch X W W') (hb : Below B w W) (hB : B ≤ W.heap.size) (hX : ∀ j, X j → B ≤ j) : Below B w W' :=
  ⟨h.os.trans hb.os, h.tape.trans hb.tape, h.output.trans hb.output, Nat.le_trans hb.size h.size, fun k hk => (h.same k (by omega) (fun hx => by have := hX k hx; omega)).trans (hb.block k hk)⟩
theorem Ch.boxed {X : Nat → Prop} {W W' : World} {b T : Nat} {v : Value} (h : Ch X W W') (hb : Boxed W b T v) (hX : ¬ X b) : Boxed W' b T v :=
  (h.same b (Array.getElem?_eq_some_iff.1 (show W.heap[b]? = _ from hb)).1 hX).trans hb

/-- the law's own blocks, and the nodes that the document's answer lists. -/
structure TB (B0 b0 p3 pk : Nat) (w : World) (N : Array Value) (ln : List Tr) (W : World) : Prop where
  below : Below B0 w W
  node : W.heap[b0]? = some (.cells N 34)
  res : ∃ v, Boxed W (b0 + 1) 4 v
  lst : ∃ A c, Boxed W p3 32 (.slice A ln.length c) ∧ SlAt W pk A c ln
  low : b0 + 1 < p3 ∧ p3 < pk ∧ pk ≤ W.heap.size ∧ B0 ≤ b0
theorem TB.ch {B0 b0 p3 pk : Nat} {w W W' : World} {N : Array Value} {ln : List Tr} {X : Nat → Prop} (h : TB B0 b0 p3 pk w N ln W) (hc : Ch X W W') (hX : ∀ j, X j → pk ≤ j) : TB B0 b0 p3 pk w N ln W' := by
  obtain ⟨h1, h2, h3, h4⟩ := h.low
  obtain ⟨u, hu⟩ := h.res
  obtain ⟨A, c, hl, hs⟩ := h.lst
  have hx : ∀ j, j < pk → ¬ X j := fun j hj hx => by have := hX j hx; omega
  refine ⟨hc.put h.below (by omega) (fun j hj => by have := hX j hj; omega), (hc.same _ (by omega) (hx _ (by omega))).trans h.node, ⟨u, hc.boxed hu (hx _ (by omega))⟩, ⟨A, c, hc.boxed hl (hx _ (by omega)), hs.keep (fun p hp => World.cell?_of_block (hc.same _ (by omega) (hx _ hp)))⟩, h1, h2, Nat.le_trans h3 hc.size, h4⟩
def Wnt (W : World) (pw pn : Nat) (ar : List (Cn × Cn)) : Prop := ∃ v, Boxed W pw 43 v ∧ W.ownsRow (pn + 1) 31 12 v ar.length (ar.flatMap arC)
def Nms (W : World) (pn : Nat) (nm : List ByteArray) : Prop := ∃ v, Boxed W pn 55 v ∧ W.ownsRow (pn + 1) 9 1 v nm.length (nm.map Value.string)
theorem row_ch {W W' : World} {base : Nat} {e : TypeId} {size : Nat} {v : Value} {n : Nat} {xs : List Value} {X : Nat → Prop} (h : W.ownsRow base e size v n xs) (hc : Ch X W W') (hX : ∀ j cs, X j → W.heap[j]? = some (.cells cs e (0, 0)) → base ≤ j → False) : W'.ownsRow base e size v n xs :=
  own_same h (fun g cs hg hb => hc.same g (Array.getElem?_eq_some_iff.1 hg).1 (fun hx => hX g cs hx hg hb))
theorem Wnt.ch {W W' : World} {pw pn : Nat} {ar : List (Cn × Cn)} {X : Nat → Prop} (h : Wnt W pw pn ar) (hc : Ch X W W') (hw : ¬ X pw) (hX : ∀ j cs, X j → W.heap[j]? = some (.cells cs 31 (0, 0)) → pn + 1 ≤ j → False) : Wnt W' pw pn ar := by
  obtain ⟨v, h1, h2⟩ := h
  exact ⟨v, hc.boxed h1 hw, row_ch h2 hc hX⟩
theorem Nms.ch {W W' : World} {pn : Nat} {nm : List ByteArray} {X : Nat → Prop} (h : Nms W pn nm) (hc : Ch X W W') (hw : ¬ X pn) (hX : ∀ j cs, X j → W.heap[j]? = some (.cells cs 9 (0, 0)) → pn + 1 ≤ j → False) : Nms W' pn nm := by
  obtain ⟨v, h1, h2⟩ := h
  exact ⟨v, hc.boxed h1 hw, row_ch h2 hc hX⟩
theorem own_of {W : World} {base : Nat} {e : TypeId} {size : Nat} {v : Value} {n : Nat} {xs : List Value} (h : W.ownsRow base e size v n xs) : ∀ k, v.ownBlock = some k → base ≤ k ∧ ∃ cur, W.heap[k]? = some (.cells cur e) := by
  intro k hk
  rcases h.2 with ⟨e, _⟩ | ⟨g, cap, cur, e, h1, h2, -⟩
  · rw [e] at hk; cases hk
  · rw [e] at hk
    simp only [Value.ownBlock, Option.some.injEq] at hk
    subst hk
    exact ⟨h1, cur, h2⟩
/-- an append, and the store of what it gives: what turns. -/
theorem Ch.push {W w4 : World} {p : Nat} {nv v' : Value} {o : Obj} (hg : (W.alloc o).grownBy w4 nv.ownBlock) : Ch (fun j => j = p ∨ nv.ownBlock = some j) W (w4.setCell ⟨p, 0, none⟩ v') :=
  ((Ch.alloc _ W o).trans (.grown hg (fun _ e => .inr e))).trans (.setCell w4 _ v' (.inl rfl))
theorem own_fresh {w4 : World} {base : Nat} {e : TypeId} {size : Nat} {v v' : Value} {n : Nat} {xs : List Value} (h : w4.ownsRow base e size v n xs) (p : Nat) (hp : p < base) : (w4.setCell ⟨p, 0, none⟩ v').ownsRow base e size v n xs :=
  own_same h (fun g _ _ hb => Below.heap_setCell w4 _ v' g (fun e => by simp at e; omega))
end Go.Proofs.YtggpffipijoddaaDoor
namespace Go.Proofs.YtggpffipijoddaaDoor
open Go Go.RowKit Go.Shelf
attribute [local go_sem] Oper.semAt_some

noncomputable def tellsC : Code := Tryd.f7.body.getD .skip
def unB : Code → Code
  | .block _ c => c
  | c => c
def fstC : Code → Code
  | .seq a _ => a
  | c => c
def sndC : Code → Code
  | .seq _ b => b
  | c => c
noncomputable def tellsB : Code := unB (rfBody (rf1 tellsC))
theorem undNl : Tryd.prog.underlying 32 = some (.slice 34) := by kernel_rfl
theorem ld_nsl {o : Oper} {ρ : Operand → Value} {w : World} (x : Operand) (ho : o.op = .load 32 x) (p : Addr) (hx : ρ x = .pointer (some p)) (v : Value) (hc : w.cell? p = some v) : (execOp ρ o).run Tryd.prog w = .ok (.value v) w := by
  unfold execOp
  simp only [ho, hx]
  simp [go_sem, hc]
theorem len_atN {o : Oper} {ρ : Operand → Value} {w : World} (x : Operand) (ho : o.op = .call { callee := .builtin .len, args := #[x], argTypes := #[32] }) (A : Option Addr) (n c : Nat) (hx : ρ x = .slice A n c) (hty : o.type = 3) (_hn : n ≤ 9223372036854775807) : (execOp ρ o).run Tryd.prog w = .ok (.value (.int .i64 n)) w := by
  unfold execOp
  simp only [ho, hty]
  simp [go_sem, hx]
theorem ld_rowN {o : Oper} {ρ : Operand → Value} {w : World} (x : Operand) (ho : o.op = .load 34 x) (b k : Nat) (hx : ρ x = .pointer (some ⟨b, k, none⟩)) (cs : List Value) (hc : w.rangeAt b k cs) (hi : (Tryd.prog.info? 34).map (·.size) = some cs.length) : (execOp ρ o).run Tryd.prog w = .ok (.value (.agg cs.toArray)) w := by
  unfold execOp
  simp only [ho, hx, Instr.loadAt, Instr.sureAddr, Sem.run_bind, Sem.run_pure, Result.andThen_ok, run_loadVar_mid w b k 34 cs _ hc undN rfl hi]
theorem ix_atN {o : Oper} {ρ : Operand → Value} {w : World} (x y : Operand) (ho : o.op = .indexAddr 32 x y) (g s ln cap i : Nat) (hx : ρ x = .slice (some ⟨g, s, none⟩) ln cap) (hy : ρ y = .int .i64 i) (hi : i < ln) : (execOp ρ o).run Tryd.prog w = .ok (.value (.pointer (some ⟨g, s + i * 22, none⟩))) w := by
  have h1 : (0 : Int) ≤ i := by omega
  have h2 : (i : Int) < ln := by omega
  unfold execOp
  simp only [ho, hx, hy]
  simp [go_sem, h1, h2]

set_option maxRecDepth 100000 in
set_option maxHeartbeats 2000000 in
theorem tells16_over (l n : Nat) (u0 u1 u4 u5 u10 u11 u12 u13 u14 u15 u16 u17 u18 u19 u20 u21 u22 u23 u24 u25 u26 u27 u28 u29 u30 u31 u32 u33 u34 u35 u36 u37 u38 u39 u40 u41 u42 u43 u44 u45 u46 u47 u48 u49 u50 u51 u52 u53 u54 u55 u56 u57 u58 u59 u60 u61 u62 u63 u64 u65 u66 u67 u68 u69 u70 u71 u72 u73 u74 u75 u76 u77 u78 u79 u80 u81 u82 u83 u84 u85 u86 u87 u88 u89 u90 u91 u92 u93 u94 u95 u96 u97 u98 u99 u100 u101 u102 u103 u104 u105 u106 u107 u108 u109 u110 u111 u112 u113 u114 u115 u116 u117 u118 u119 u120 u121 u122 u123 u124 u125 u126 u127 u128 u129 u130 u131 u132 u133 u134 u135 u136 u137 u138 u139 u140 u141 u142 u143 u144 u145 u146 u147 u148 u149 u150 u151 u152 u153 u154 u155 u156 u157 u158 u159 u160 u161 u162 u163 u164 : Value) (b0 p3 pk pw pn q kk ln cl : Nat) (Al : Option Addr) (W : World) (hck0 : Boxed W pk 3 (.int .i64 kk)) (hcl0 : Boxed W p3 32 (.slice Al ln cl)) (hln : ln ≤ 1048576) (K : Act → World → Prop) (Q : Exit → Act → World → Prop) (hLo : ¬ LetsOut Q) (hres : ∃ u, Boxed W (b0 + 1) 4 u) (hQ : ∀ (a' : Act) (W' : World), Below W.heap.size W W' → Q .ret a' (W'.setCell ⟨b0 + 1, 0, none⟩ (.bool false))) (hge0 : ln ≤ kk) :
    (fstC tellsB).wpIn (Fence.wide.inRound l) n Tryd.prog (Exit.then K Q) ⟨#[u0, u1, .pointer (some ⟨b0 + 1, 0, none⟩), .pointer (some ⟨p3, 0, none⟩), u4, u5, .pointer (some ⟨pk, 0, none⟩), .pointer (some ⟨pw, 0, none⟩), .pointer (some ⟨pn, 0, none⟩), .pointer (some ⟨q, 0, none⟩), u10, u11, u12, u13, u14, u15, u16, u17, u18, u19, u20, u21, u22, u23, u24, u25, u26, u27, u28, u29, u30, u31, u32, u33, u34, u35, u36, u37, u38, u39, u40, u41, u42, u43, u44, u45, u46, u47, u48, u49, u50, u51, u52, u53, u54, u55, u56, u57, u58, u59, u60, u61, u62, u63, u64, u65, u66, u67, u68, u69, u70, u71, u72, u73, u74, u75, u76, u77, u78, u79, u80, u81, u82, u83, u84, u85, u86, u87, u88, u89, u90, u91, u92, u93, u94, u95, u96, u97, u98, u99, u100, u101, u102, u103, u104, u105, u106, u107, u108, u109, u110, u111, u112, u113, u114, u115, u116, u117, u118, u119, u120, u121, u122, u123, u124, u125, u126, u127, u128, u129, u130, u131, u132, u133, u134, u135, u136, u137, u138, u139, u140, u141, u142, u143, u144, u145, u146, u147, u148, u149, u150, u151, u152, u153, u154, u155, u156, u157, u158, u159, u160, u161, u162, u163, u164], []⟩ W := by
  dsimp only
  generalize hf0 : Act.mk _ _ = f0
  conv => arg 4; whnf
  have hck := hck0.cell
  have hcl := hcl0.cell
  have hlm : ln ≤ 9223372036854775807 := by omega
  have HLO := Lib.hid hLo
  clear hLo hck0 hcl0
  have hge : decide (ln ≤ kk) = true := by simpa using hge0
  obtain ⟨u, hu⟩ := hres
  have HU := Lib.hid hu
  have HQ := Lib.hid hQ
  clear hge0 hu hQ
  refine wpIn_seq ?_
  refine wpIn_region_still_tail 10 (by kernel_rfl) (by kernel_rfl) (fun ⟨a', w', h⟩ => HLO.out ⟨a', w', h⟩) (by intro o ho c hc; simp only [List.mem_cons, List.not_mem_nil, or_false] at ho; rcases ho with rfl | rfl | rfl | rfl | rfl | rfl | rfl | rfl | rfl | rfl | rfl | rfl | rfl <;> cases hc) ?_
  simp only [List.take_succ_cons, List.take_zero, List.drop_succ_cons, List.drop_zero]
  refine still_one (.int .i64 kk) (by rw [← hf0]; kernel_rfl) (ld_int _ rfl ⟨pk, 0, none⟩ (by rw [← hf0]; kernel_rfl) _ hck) (fun f1 h1 => ?_)
  refine still_one (.slice Al ln cl) (by rw [h1, ← hf0]; kernel_rfl) (ld_nsl _ rfl ⟨p3, 0, none⟩ (by rw [h1, ← hf0]; kernel_rfl) _ hcl) (fun f2 h2 => ?_)
  refine still_one (.int .i64 ln) (by rw [h2, h1, ← hf0]; kernel_rfl) (len_atN _ rfl Al ln cl (by rw [h2, h1, ← hf0]; kernel_rfl) rfl hlm) (fun f3 h3 => ?_)
  refine still_one (.bool true) (by rw [h3, h2, h1, ← hf0]; kernel_rfl) ((ge_at _ _ rfl kk ln (by rw [h3, h2, h1, ← hf0]; kernel_rfl) (by rw [h3, h2, h1, ← hf0]; kernel_rfl)).trans (by rw [hge])) (fun f4 h4 => ?_)
  refine still_one (.bool true) (by rw [h4, h3, h2, h1, ← hf0]; kernel_rfl) (by rw [h4, h3, h2, h1, ← hf0]; kernel_rfl) (fun f5 h5 => ?_)
  refine still_off (by rw [h5, h4, h3, h2, h1, ← hf0]; kernel_rfl) (fun f6 h6 => ?_)
  refine still_off (by rw [h6, h5, h4, h3, h2, h1, ← hf0]; kernel_rfl) (fun f7 h7 => ?_)
  refine still_off (by rw [h7, h6, h5, h4, h3, h2, h1, ← hf0]; kernel_rfl) (fun f8 h8 => ?_)
  refine still_off (by rw [h8, h7, h6, h5, h4, h3, h2, h1, ← hf0]; kernel_rfl) (fun f9 h9 => ?_)
  refine still_off (by rw [h9, h8, h7, h6, h5, h4, h3, h2, h1, ← hf0]; kernel_rfl) (fun f10 h10 => ?_)
  refine wpStill_nil ?_
  have hf10 : f10 = ⟨#[u0, u1, .pointer (some ⟨b0 + 1, 0, none⟩), .pointer (some ⟨p3, 0, none⟩), u4, u5, .pointer (some ⟨pk, 0, none⟩), .pointer (some ⟨pw, 0, none⟩), .pointer (some ⟨pn, 0, none⟩), .pointer (some ⟨q, 0, none⟩), u10, u11, u12, u13, u14, u15, u16, u17, u18, u19, u20, u21, u22, u23, u24, u25, u26, u27, u28, u29, u30, u31, u32, u33, u34, u35, u36, u37, u38, u39, u40, u41, u42, u43, u44, u45, u46, u47, u48, u49, u50, u51, u52, u53, u54, u55, u56, u57, .int .i64 kk, .slice Al ln cl, .int .i64 ln, .bool true, .bool true, undef, undef, undef, undef, undef, u68, u69, u70, u71, u72, u73, u74, u75, u76, u77, u78, u79, u80, u81, u82, u83, u84, u85, u86, u87, u88, u89, u90, u91, u92, u93, u94, u95, u96, u97, u98, u99, u100, u101, u102, u103, u104, u105, u106, u107, u108, u109, u110, u111, u112, u113, u114, u115, u116, u117, u118, u119, u120, u121, u122, u123, u124, u125, u126, u127, u128, u129, u130, u131, u132, u133, u134, u135, u136, u137, u138, u139, u140, u141, u142, u143, u144, u145, u146, u147, u148, u149, u150, u151, u152, u153, u154, u155, u156, u157, u158, u159, u160, u161, u162, u163, u164], []⟩ := by rw [h10, h9, h8, h7, h6, h5, h4, h3, h2, h1, ← hf0]; kernel_rfl
  dsimp only at hf10
  rw [hf10]
  clear hf10 h10 h9 h8 h7 h6 h5 h4 h3 h2 h1 hf0 f10 f9 f8 f7 f6 f5 f4 f3 f2 f1 f0
  change wpList _ _ _ _ _ (World.drew W)
  obtain ⟨Wd, hWd⟩ : ∃ Wd, Wd = W.drew := ⟨_, rfl⟩
  rw [← hWd]
  have hu1 : Boxed Wd (b0 + 1) 4 u := by rw [hWd]; exact HU.out
  have huc := hu1.cell
  have huf := hu1.frozen
  have HWD := Lib.hid hWd
  clear hWd hck hcl hu1
  go_wp2
  gi_wp2
  exact HQ.out _ Wd (by rw [HWD.out]; exact (Below.refl _ W).drew)

set_option maxRecDepth 100000 in
set_option maxHeartbeats 2000000 in
theorem tells16_other (l n : Nat) (u0 u1 u4 u5 u10 u11 u12 u13 u14 u15 u16 u17 u18 u19 u20 u21 u22 u23 u24 u25 u26 u27 u28 u29 u30 u31 u32 u33 u34 u35 u36 u37 u38 u39 u40 u41 u42 u43 u44 u45 u46 u47 u48 u49 u50 u51 u52 u53 u54 u55 u56 u57 u58 u59 u60 u61 u62 u63 u64 u65 u66 u67 u68 u69 u70 u71 u72 u73 u74 u75 u76 u77 u78 u79 u80 u81 u82 u83 u84 u85 u86 u87 u88 u89 u90 u91 u92 u93 u94 u95 u96 u97 u98 u99 u100 u101 u102 u103 u104 u105 u106 u107 u108 u109 u110 u111 u112 u113 u114 u115 u116 u117 u118 u119 u120 u121 u122 u123 u124 u125 u126 u127 u128 u129 u130 u131 u132 u133 u134 u135 u136 u137 u138 u139 u140 u141 u142 u143 u144 u145 u146 u147 u148 u149 u150 u151 u152 u153 u154 u155 u156 u157 u158 u159 u160 u161 u162 u163 u164 : Value) (b0 p3 pk pw pn q kk ln cl : Nat) (Al : Option Addr) (W : World) (hck0 : Boxed W pk 3 (.int .i64 kk)) (hcl0 : Boxed W p3 32 (.slice Al ln cl)) (hln : ln ≤ 1048576) (K : Act → World → Prop) (Q : Exit → Act → World → Prop) (hLo : ¬ LetsOut Q) (hres : ∃ u, Boxed W (b0 + 1) 4 u) (hQ : ∀ (a' : Act) (W' : World), Below W.heap.size W W' → Q .ret a' (W'.setCell ⟨b0 + 1, 0, none⟩ (.bool false))) (y z : Tr) (Ay Az _lA : Option Addr) (cy cz lb lo : Nat) (hyd : y.d.ok) (hys : SlAt W W.heap.size Ay cy y.l) (hzd : z.d.ok) (hzs : SlAt W W.heap.size Az cz z.l) (hq : W.heap[q]? = some (.cells (nodeA y.d Ay y.l.length cy) 34)) (hlt : kk < ln) (hAl : Al = some ⟨lb, lo, none⟩) (hzc : NodeCells W lb (lo + kk * 22) z.d Az z.l.length cz) (hsm : sameB y z = false) :
    (fstC tellsB).wpIn (Fence.wide.inRound l) n Tryd.prog (Exit.then K Q) ⟨#[u0, u1, .pointer (some ⟨b0 + 1, 0, none⟩), .pointer (some ⟨p3, 0, none⟩), u4, u5, .pointer (some ⟨pk, 0, none⟩), .pointer (some ⟨pw, 0, none⟩), .pointer (some ⟨pn, 0, none⟩), .pointer (some ⟨q, 0, none⟩), u10, u11, u12, u13, u14, u15, u16, u17, u18, u19, u20, u21, u22, u23, u24, u25, u26, u27, u28, u29, u30, u31, u32, u33, u34, u35, u36, u37, u38, u39, u40, u41, u42, u43, u44, u45, u46, u47, u48, u49, u50, u51, u52, u53, u54, u55, u56, u57, u58, u59, u60, u61, u62, u63, u64, u65, u66, u67, u68, u69, u70, u71, u72, u73, u74, u75, u76, u77, u78, u79, u80, u81, u82, u83, u84, u85, u86, u87, u88, u89, u90, u91, u92, u93, u94, u95, u96, u97, u98, u99, u100, u101, u102, u103, u104, u105, u106, u107, u108, u109, u110, u111, u112, u113, u114, u115, u116, u117, u118, u119, u120, u121, u122, u123, u124, u125, u126, u127, u128, u129, u130, u131, u132, u133, u134, u135, u136, u137, u138, u139, u140, u141, u142, u143, u144, u145, u146, u147, u148, u149, u150, u151, u152, u153, u154, u155, u156, u157, u158, u159, u160, u161, u162, u163, u164], []⟩ W := by
  dsimp only
  generalize hf0 : Act.mk _ _ = f0
  conv => arg 4; whnf
  have hck := hck0.cell
  have hcl := hcl0.cell
  have hlm : ln ≤ 9223372036854775807 := by omega
  have HLO := Lib.hid hLo
  clear hLo hck0 hcl0
  obtain ⟨u, hu⟩ := hres
  have HU := Lib.hid hu
  have HQ := Lib.hid hQ
  clear hu hQ
  obtain ⟨X, hXe, hXl, hXr⟩ : ∃ X : List Value, X.toArray = nodeA y.d Ay y.l.length cy ∧ X.length = 22 ∧ W.rangeAt q 0 X := ⟨y.d.head ++ [.slice Ay y.l.length cy], rfl, rfl, fun j u hu => by rw [Nat.zero_add]; exact (cell_of_row W q j _ _ _ hq).trans (by simpa [nodeA] using hu)⟩
  obtain ⟨Y, hYe, hYl, hYr⟩ := hzc.range (w' := W) (fun _ _ => rfl)
  have hXi : (Tryd.prog.info? 34).map (·.size) = some X.length := by rw [hXl]; exact infN
  have hYi : (Tryd.prog.info? 34).map (·.size) = some Y.length := by rw [hYl]; exact infN
  have hS : Calls Tryd.prog 15 #[.agg X.toArray, .agg Y.toArray] W.drew fun e w' => e = .returned (.bool (sameB y z)) ∧ Below W.drew.heap.size W.drew w' := by
    have := rsame_c y z W.drew W.drew.heap.size Ay Az cy cz hyd (hys.below (Below.refl _ W).drew) hzd (hzs.below (Below.refl _ W).drew) (Nat.le_refl _)
    rw [nodeV, nodeV, ← hXe, ← hYe] at this; exact this
  have HS := Lib.hid hS
  have HXR := Lib.hid hXr
  have HXI := Lib.hid hXi
  have HYR := Lib.hid hYr
  have HYI := Lib.hid hYi
  have HAA := Lib.hid hAl
  have hge : decide (ln ≤ kk) = false := by simpa using hlt
  clear hXr hXi hYr hYi hAl hS hXe hYe hXl hYl hq hzc hyd hys hzd hzs
  refine wpIn_seq ?_
  refine wpIn_region_still_tail 10 (by kernel_rfl) (by kernel_rfl) (fun ⟨a', w', h⟩ => HLO.out ⟨a', w', h⟩) (by intro o ho c hc; simp only [List.mem_cons, List.not_mem_nil, or_false] at ho; rcases ho with rfl | rfl | rfl | rfl | rfl | rfl | rfl | rfl | rfl | rfl | rfl | rfl | rfl <;> cases hc) ?_
  simp only [List.take_succ_cons, List.take_zero, List.drop_succ_cons, List.drop_zero]
  refine still_one (.int .i64 kk) (by rw [← hf0]; kernel_rfl) (ld_int _ rfl ⟨pk, 0, none⟩ (by rw [← hf0]; kernel_rfl) _ hck) (fun f1 h1 => ?_)
  refine still_one (.slice Al ln cl) (by rw [h1, ← hf0]; kernel_rfl) (ld_nsl _ rfl ⟨p3, 0, none⟩ (by rw [h1, ← hf0]; kernel_rfl) _ hcl) (fun f2 h2 => ?_)
  refine still_one (.int .i64 ln) (by rw [h2, h1, ← hf0]; kernel_rfl) (len_atN _ rfl Al ln cl (by rw [h2, h1, ← hf0]; kernel_rfl) rfl hlm) (fun f3 h3 => ?_)
  refine still_one (.bool false) (by rw [h3, h2, h1, ← hf0]; kernel_rfl) ((ge_at _ _ rfl kk ln (by rw [h3, h2, h1, ← hf0]; kernel_rfl) (by rw [h3, h2, h1, ← hf0]; kernel_rfl)).trans (by rw [hge])) (fun f4 h4 => ?_)
  refine still_one (.bool false) (by rw [h4, h3, h2, h1, ← hf0]; kernel_rfl) (by rw [h4, h3, h2, h1, ← hf0]; kernel_rfl) (fun f5 h5 => ?_)
  refine still_one (.agg X.toArray) (by rw [h5, h4, h3, h2, h1, ← hf0]; kernel_rfl) (ld_rowN _ rfl q 0 (by rw [h5, h4, h3, h2, h1, ← hf0]; kernel_rfl) X HXR.out HXI.out) (fun f6 h6 => ?_)
  refine still_one (.slice Al ln cl) (by rw [h6, h5, h4, h3, h2, h1, ← hf0]; kernel_rfl) (ld_nsl _ rfl ⟨p3, 0, none⟩ (by rw [h6, h5, h4, h3, h2, h1, ← hf0]; kernel_rfl) _ hcl) (fun f7 h7 => ?_)
  refine still_one (.int .i64 kk) (by rw [h7, h6, h5, h4, h3, h2, h1, ← hf0]; kernel_rfl) (ld_int _ rfl ⟨pk, 0, none⟩ (by rw [h7, h6, h5, h4, h3, h2, h1, ← hf0]; kernel_rfl) _ hck) (fun f8 h8 => ?_)
  refine still_one (.pointer (some ⟨lb, lo + kk * 22, none⟩)) (by rw [h8, h7, h6, h5, h4, h3, h2, h1, ← hf0]; kernel_rfl) (ix_atN _ _ rfl lb lo ln cl kk (by rw [h8, h7, h6, h5, h4, h3, h2, h1, ← hf0, HAA.out]; kernel_rfl) (by rw [h8, h7, h6, h5, h4, h3, h2, h1, ← hf0]; kernel_rfl) hlt) (fun f9 h9 => ?_)
  refine still_one (.agg Y.toArray) (by rw [h9, h8, h7, h6, h5, h4, h3, h2, h1, ← hf0]; kernel_rfl) (ld_rowN _ rfl lb (lo + kk * 22) (by rw [h9, h8, h7, h6, h5, h4, h3, h2, h1, ← hf0]; kernel_rfl) Y HYR.out HYI.out) (fun f10 h10 => ?_)
  refine wpStill_nil ?_
  have hf10 : f10 = ⟨#[u0, u1, .pointer (some ⟨b0 + 1, 0, none⟩), .pointer (some ⟨p3, 0, none⟩), u4, u5, .pointer (some ⟨pk, 0, none⟩), .pointer (some ⟨pw, 0, none⟩), .pointer (some ⟨pn, 0, none⟩), .pointer (some ⟨q, 0, none⟩), u10, u11, u12, u13, u14, u15, u16, u17, u18, u19, u20, u21, u22, u23, u24, u25, u26, u27, u28, u29, u30, u31, u32, u33, u34, u35, u36, u37, u38, u39, u40, u41, u42, u43, u44, u45, u46, u47, u48, u49, u50, u51, u52, u53, u54, u55, u56, u57, .int .i64 kk, .slice Al ln cl, .int .i64 ln, .bool false, .bool false, .agg X.toArray, .slice Al ln cl, .int .i64 kk, .pointer (some ⟨lb, lo + kk * 22, none⟩), .agg Y.toArray, u68, u69, u70, u71, u72, u73, u74, u75, u76, u77, u78, u79, u80, u81, u82, u83, u84, u85, u86, u87, u88, u89, u90, u91, u92, u93, u94, u95, u96, u97, u98, u99, u100, u101, u102, u103, u104, u105, u106, u107, u108, u109, u110, u111, u112, u113, u114, u115, u116, u117, u118, u119, u120, u121, u122, u123, u124, u125, u126, u127, u128, u129, u130, u131, u132, u133, u134, u135, u136, u137, u138, u139, u140, u141, u142, u143, u144, u145, u146, u147, u148, u149, u150, u151, u152, u153, u154, u155, u156, u157, u158, u159, u160, u161, u162, u163, u164], []⟩ := by rw [h10, h9, h8, h7, h6, h5, h4, h3, h2, h1, ← hf0]; kernel_rfl
  dsimp only at hf10
  rw [hf10]
  clear hf10 h10 h9 h8 h7 h6 h5 h4 h3 h2 h1 hf0 f10 f9 f8 f7 f6 f5 f4 f3 f2 f1 f0
  rw [hsm] at HS
  change wpList _ _ _ _ _ (World.drew W)
  obtain ⟨Wd, hWd⟩ : ∃ Wd, Wd = W.drew := ⟨_, rfl⟩
  rw [← hWd]
  have HS1 : Hid (Calls Tryd.prog 15 #[.agg X.toArray, .agg Y.toArray] Wd fun e w' => e = .returned (.bool false) ∧ Below Wd.heap.size Wd w') := Lib.hid (by rw [hWd]; exact HS.out)
  have HWD := Lib.hid hWd
  clear hWd hck hcl hsm hge HS
  go_wp2_with (fail)
  refine HS1.out.mono ?_
  rintro e W2 ⟨rfl, hb2⟩
  have hb1 : Below W.heap.size W W2 := by have h1 := hb2; rw [HWD.out] at h1; exact ((Below.refl _ W).drew).trans h1
  have hu1 : Boxed W2 (b0 + 1) 4 u := (hb1.block _ (Array.getElem?_eq_some_iff.1 (show W.heap[b0 + 1]? = _ from HU.out)).1).trans HU.out
  have huc := hu1.cell
  have huf := hu1.frozen
  have HB1 := Lib.hid hb1
  clear hu1 hb1 hb2
  go_wp2
  gi_wp2
  exact HQ.out _ W2 HB1.out

set_option maxRecDepth 100000 in
set_option maxHeartbeats 2000000 in
theorem tells16_same (l n : Nat) (u0 u1 u4 u5 u10 u11 u12 u13 u14 u15 u16 u17 u18 u19 u20 u21 u22 u23 u24 u25 u26 u27 u28 u29 u30 u31 u32 u33 u34 u35 u36 u37 u38 u39 u40 u41 u42 u43 u44 u45 u46 u47 u48 u49 u50 u51 u52 u53 u54 u55 u56 u57 u58 u59 u60 u61 u62 u63 u64 u65 u66 u67 u68 u69 u70 u71 u72 u73 u74 u75 u76 u77 u78 u79 u80 u81 u82 u83 u84 u85 u86 u87 u88 u89 u90 u91 u92 u93 u94 u95 u96 u97 u98 u99 u100 u101 u102 u103 u104 u105 u106 u107 u108 u109 u110 u111 u112 u113 u114 u115 u116 u117 u118 u119 u120 u121 u122 u123 u124 u125 u126 u127 u128 u129 u130 u131 u132 u133 u134 u135 u136 u137 u138 u139 u140 u141 u142 u143 u144 u145 u146 u147 u148 u149 u150 u151 u152 u153 u154 u155 u156 u157 u158 u159 u160 u161 u162 u163 u164 : Value) (b0 p3 pk pw pn q kk ln cl : Nat) (Al : Option Addr) (W : World) (hck0 : Boxed W pk 3 (.int .i64 kk)) (hcl0 : Boxed W p3 32 (.slice Al ln cl)) (hln : ln ≤ 1048576) (K : Act → World → Prop) (Q : Exit → Act → World → Prop) (hLo : ¬ LetsOut Q) (y z : Tr) (Ay Az _lA : Option Addr) (cy cz lb lo : Nat) (hyd : y.d.ok) (hys : SlAt W W.heap.size Ay cy y.l) (hzd : z.d.ok) (hzs : SlAt W W.heap.size Az cz z.l) (hq : W.heap[q]? = some (.cells (nodeA y.d Ay y.l.length cy) 34)) (hlt : kk < ln) (hAl : Al = some ⟨lb, lo, none⟩) (hzc : NodeCells W lb (lo + kk * 22) z.d Az z.l.length cz) (hsm : sameB y z = true) (hK : ∀ (u0 u1 u4 u5 u10 u11 u12 u13 u14 u15 u16 u17 u18 u19 u20 u21 u22 u23 u24 u25 u26 u27 u28 u29 u30 u31 u32 u33 u34 u35 u36 u37 u38 u39 u40 u41 u42 u43 u44 u45 u46 u47 u48 u49 u50 u51 u52 u53 u54 u55 u56 u57 u58 u59 u60 u61 u62 u63 u64 u65 u66 u67 u68 u69 u70 u71 u72 u73 u74 u75 u76 u77 u78 u79 u80 u81 u82 u83 u84 u85 u86 u87 u88 u89 u90 u91 u92 u93 u94 u95 u96 u97 u98 u99 u100 u101 u102 u103 u104 u105 u106 u107 u108 u109 u110 u111 u112 u113 u114 u115 u116 u117 u118 u119 u120 u121 u122 u123 u124 u125 u126 u127 u128 u129 u130 u131 u132 u133 u134 u135 u136 u137 u138 u139 u140 u141 u142 u143 u144 u145 u146 u147 u148 u149 u150 u151 u152 u153 u154 u155 u156 u157 u158 u159 u160 u161 u162 u163 u164 : Value) (W' : World), Below W.heap.size W W' → K ⟨#[u0, u1, .pointer (some ⟨b0 + 1, 0, none⟩), .pointer (some ⟨p3, 0, none⟩), u4, u5, .pointer (some ⟨pk, 0, none⟩), .pointer (some ⟨pw, 0, none⟩), .pointer (some ⟨pn, 0, none⟩), .pointer (some ⟨q, 0, none⟩), u10, u11, u12, u13, u14, u15, u16, u17, u18, u19, u20, u21, u22, u23, u24, u25, u26, u27, u28, u29, u30, u31, u32, u33, u34, u35, u36, u37, u38, u39, u40, u41, u42, u43, u44, u45, u46, u47, u48, u49, u50, u51, u52, u53, u54, u55, u56, u57, u58, u59, u60, u61, u62, u63, u64, u65, u66, u67, u68, u69, u70, u71, u72, u73, u74, u75, u76, u77, u78, u79, u80, u81, u82, u83, u84, u85, u86, u87, u88, u89, u90, u91, u92, u93, u94, u95, u96, u97, u98, u99, u100, u101, u102, u103, u104, u105, u106, u107, u108, u109, u110, u111, u112, u113, u114, u115, u116, u117, u118, u119, u120, u121, u122, u123, u124, u125, u126, u127, u128, u129, u130, u131, u132, u133, u134, u135, u136, u137, u138, u139, u140, u141, u142, u143, u144, u145, u146, u147, u148, u149, u150, u151, u152, u153, u154, u155, u156, u157, u158, u159, u160, u161, u162, u163, u164], []⟩ W') :
    (fstC tellsB).wpIn (Fence.wide.inRound l) n Tryd.prog (Exit.then K Q) ⟨#[u0, u1, .pointer (some ⟨b0 + 1, 0, none⟩), .pointer (some ⟨p3, 0, none⟩), u4, u5, .pointer (some ⟨pk, 0, none⟩), .pointer (some ⟨pw, 0, none⟩), .pointer (some ⟨pn, 0, none⟩), .pointer (some ⟨q, 0, none⟩), u10, u11, u12, u13, u14, u15, u16, u17, u18, u19, u20, u21, u22, u23, u24, u25, u26, u27, u28, u29, u30, u31, u32, u33, u34, u35, u36, u37, u38, u39, u40, u41, u42, u43, u44, u45, u46, u47, u48, u49, u50, u51, u52, u53, u54, u55, u56, u57, u58, u59, u60, u61, u62, u63, u64, u65, u66, u67, u68, u69, u70, u71, u72, u73, u74, u75, u76, u77, u78, u79, u80, u81, u82, u83, u84, u85, u86, u87, u88, u89, u90, u91, u92, u93, u94, u95, u96, u97, u98, u99, u100, u101, u102, u103, u104, u105, u106, u107, u108, u109, u110, u111, u112, u113, u114, u115, u116, u117, u118, u119, u120, u121, u122, u123, u124, u125, u126, u127, u128, u129, u130, u131, u132, u133, u134, u135, u136, u137, u138, u139, u140, u141, u142, u143, u144, u145, u146, u147, u148, u149, u150, u151, u152, u153, u154, u155, u156, u157, u158, u159, u160, u161, u162, u163, u164], []⟩ W := by
  dsimp only at hK
  dsimp only
  generalize hf0 : Act.mk _ _ = f0
  conv => arg 4; whnf
  have hck := hck0.cell
  have hcl := hcl0.cell
  have hlm : ln ≤ 9223372036854775807 := by omega
  have HLO := Lib.hid hLo
  clear hLo hck0 hcl0
  have HK := Lib.hid hK
  clear hK
  obtain ⟨X, hXe, hXl, hXr⟩ : ∃ X : List Value, X.toArray = nodeA y.d Ay y.l.length cy ∧ X.length = 22 ∧ W.rangeAt q 0 X := ⟨y.d.head ++ [.slice Ay y.l.length cy], rfl, rfl, fun j u hu => by rw [Nat.zero_add]; exact (cell_of_row W q j _ _ _ hq).trans (by simpa [nodeA] using hu)⟩
  obtain ⟨Y, hYe, hYl, hYr⟩ := hzc.range (w' := W) (fun _ _ => rfl)
  have hXi : (Tryd.prog.info? 34).map (·.size) = some X.length := by rw [hXl]; exact infN
  have hYi : (Tryd.prog.info? 34).map (·.size) = some Y.length := by rw [hYl]; exact infN
  have hS : Calls Tryd.prog 15 #[.agg X.toArray, .agg Y.toArray] W.drew fun e w' => e = .returned (.bool (sameB y z)) ∧ Below W.drew.heap.size W.drew w' := by
    have := rsame_c y z W.drew W.drew.heap.size Ay Az cy cz hyd (hys.below (Below.refl _ W).drew) hzd (hzs.below (Below.refl _ W).drew) (Nat.le_refl _)
    rw [nodeV, nodeV, ← hXe, ← hYe] at this; exact this
  have HS := Lib.hid hS
  have HXR := Lib.hid hXr
  have HXI := Lib.hid hXi
  have HYR := Lib.hid hYr
  have HYI := Lib.hid hYi
  have HAA := Lib.hid hAl
  have hge : decide (ln ≤ kk) = false := by simpa using hlt
  clear hXr hXi hYr hYi hAl hS hXe hYe hXl hYl hq hzc hyd hys hzd hzs
  refine wpIn_seq ?_
  refine wpIn_region_still_tail 10 (by kernel_rfl) (by kernel_rfl) (fun ⟨a', w', h⟩ => HLO.out ⟨a', w', h⟩) (by intro o ho c hc; simp only [List.mem_cons, List.not_mem_nil, or_false] at ho; rcases ho with rfl | rfl | rfl | rfl | rfl | rfl | rfl | rfl | rfl | rfl | rfl | rfl | rfl <;> cases hc) ?_
  simp only [List.take_succ_cons, List.take_zero, List.drop_succ_cons, List.drop_zero]
  refine still_one (.int .i64 kk) (by rw [← hf0]; kernel_rfl) (ld_int _ rfl ⟨pk, 0, none⟩ (by rw [← hf0]; kernel_rfl) _ hck) (fun f1 h1 => ?_)
  refine still_one (.slice Al ln cl) (by rw [h1, ← hf0]; kernel_rfl) (ld_nsl _ rfl ⟨p3, 0, none⟩ (by rw [h1, ← hf0]; kernel_rfl) _ hcl) (fun f2 h2 => ?_)
  refine still_one (.int .i64 ln) (by rw [h2, h1, ← hf0]; kernel_rfl) (len_atN _ rfl Al ln cl (by rw [h2, h1, ← hf0]; kernel_rfl) rfl hlm) (fun f3 h3 => ?_)
  refine still_one (.bool false) (by rw [h3, h2, h1, ← hf0]; kernel_rfl) ((ge_at _ _ rfl kk ln (by rw [h3, h2, h1, ← hf0]; kernel_rfl) (by rw [h3, h2, h1, ← hf0]; kernel_rfl)).trans (by rw [hge])) (fun f4 h4 => ?_)
  refine still_one (.bool false) (by rw [h4, h3, h2, h1, ← hf0]; kernel_rfl) (by rw [h4, h3, h2, h1, ← hf0]; kernel_rfl) (fun f5 h5 => ?_)
  refine still_one (.agg X.toArray) (by rw [h5, h4, h3, h2, h1, ← hf0]; kernel_rfl) (ld_rowN _ rfl q 0 (by rw [h5, h4, h3, h2, h1, ← hf0]; kernel_rfl) X HXR.out HXI.out) (fun f6 h6 => ?_)
  refine still_one (.slice Al ln cl) (by rw [h6, h5, h4, h3, h2, h1, ← hf0]; kernel_rfl) (ld_nsl _ rfl ⟨p3, 0, none⟩ (by rw [h6, h5, h4, h3, h2, h1, ← hf0]; kernel_rfl) _ hcl) (fun f7 h7 => ?_)
  refine still_one (.int .i64 kk) (by rw [h7, h6, h5, h4, h3, h2, h1, ← hf0]; kernel_rfl) (ld_int _ rfl ⟨pk, 0, none⟩ (by rw [h7, h6, h5, h4, h3, h2, h1, ← hf0]; kernel_rfl) _ hck) (fun f8 h8 => ?_)
  refine still_one (.pointer (some ⟨lb, lo + kk * 22, none⟩)) (by rw [h8, h7, h6, h5, h4, h3, h2, h1, ← hf0]; kernel_rfl) (ix_atN _ _ rfl lb lo ln cl kk (by rw [h8, h7, h6, h5, h4, h3, h2, h1, ← hf0, HAA.out]; kernel_rfl) (by rw [h8, h7, h6, h5, h4, h3, h2, h1, ← hf0]; kernel_rfl) hlt) (fun f9 h9 => ?_)
  refine still_one (.agg Y.toArray) (by rw [h9, h8, h7, h6, h5, h4, h3, h2, h1, ← hf0]; kernel_rfl) (ld_rowN _ rfl lb (lo + kk * 22) (by rw [h9, h8, h7, h6, h5, h4, h3, h2, h1, ← hf0]; kernel_rfl) Y HYR.out HYI.out) (fun f10 h10 => ?_)
  refine wpStill_nil ?_
  have hf10 : f10 = ⟨#[u0, u1, .pointer (some ⟨b0 + 1, 0, none⟩), .pointer (some ⟨p3, 0, none⟩), u4, u5, .pointer (some ⟨pk, 0, none⟩), .pointer (some ⟨pw, 0, none⟩), .pointer (some ⟨pn, 0, none⟩), .pointer (some ⟨q, 0, none⟩), u10, u11, u12, u13, u14, u15, u16, u17, u18, u19, u20, u21, u22, u23, u24, u25, u26, u27, u28, u29, u30, u31, u32, u33, u34, u35, u36, u37, u38, u39, u40, u41, u42, u43, u44, u45, u46, u47, u48, u49, u50, u51, u52, u53, u54, u55, u56, u57, .int .i64 kk, .slice Al ln cl, .int .i64 ln, .bool false, .bool false, .agg X.toArray, .slice Al ln cl, .int .i64 kk, .pointer (some ⟨lb, lo + kk * 22, none⟩), .agg Y.toArray, u68, u69, u70, u71, u72, u73, u74, u75, u76, u77, u78, u79, u80, u81, u82, u83, u84, u85, u86, u87, u88, u89, u90, u91, u92, u93, u94, u95, u96, u97, u98, u99, u100, u101, u102, u103, u104, u105, u106, u107, u108, u109, u110, u111, u112, u113, u114, u115, u116, u117, u118, u119, u120, u121, u122, u123, u124, u125, u126, u127, u128, u129, u130, u131, u132, u133, u134, u135, u136, u137, u138, u139, u140, u141, u142, u143, u144, u145, u146, u147, u148, u149, u150, u151, u152, u153, u154, u155, u156, u157, u158, u159, u160, u161, u162, u163, u164], []⟩ := by rw [h10, h9, h8, h7, h6, h5, h4, h3, h2, h1, ← hf0]; kernel_rfl
  dsimp only at hf10
  rw [hf10]
  clear hf10 h10 h9 h8 h7 h6 h5 h4 h3 h2 h1 hf0 f10 f9 f8 f7 f6 f5 f4 f3 f2 f1 f0
  rw [hsm] at HS
  change wpList _ _ _ _ _ (World.drew W)
  obtain ⟨Wd, hWd⟩ : ∃ Wd, Wd = W.drew := ⟨_, rfl⟩
  rw [← hWd]
  have HS1 : Hid (Calls Tryd.prog 15 #[.agg X.toArray, .agg Y.toArray] Wd fun e w' => e = .returned (.bool true) ∧ Below Wd.heap.size Wd w') := Lib.hid (by rw [hWd]; exact HS.out)
  have HWD := Lib.hid hWd
  clear hWd hck hcl hsm hge HS
  go_wp2_with (fail)
  refine HS1.out.mono ?_
  rintro e W2 ⟨rfl, hb2⟩
  have hb1 : Below W.heap.size W W2 := by have h1 := hb2; rw [HWD.out] at h1; exact ((Below.refl _ W).drew).trans h1
  have HB1 := Lib.hid hb1
  clear hb1 hb2
  go_wp2
  gi_wp2
  exact HK.out _ _ _ _ _ _ _ _ _ _ _ _ _ _ _ _ _ _ _ _ _ _ _ _ _ _ _ _ _ _ _ _ _ _ _ _ _ _ _ _ _ _ _ _ _ _ _ _ _ _ _ _ _ _ _ _ _ _ _ _ _ _ _ _ _ _ _ _ _ _ _ _ _ _ _ _ _ _ _ _ _ _ _ _ _ _ _ _ _ _ _ _ _ _ _ _ _ _ _ _ _ _ _ _ _ _ _ _ _ _ _ _ _ _ _ _ _ _ _ _ _ _ _ _ _ _ _ _ _ _ _ _ _ _ _ _ _ _ _ _ _ _ _ _ _ _ _ _ _ _ _ _ _ _ _ _ _ _ _ W2 HB1.out
end Go.Proofs.YtggpffipijoddaaDoor
namespace Go.Proofs.YtggpffipijoddaaDoor
open Go Go.RowKit Go.Shelf
attribute [local go_sem] Oper.semAt_some

theorem box_pw {W w1 : World} {p pn n : Nat} {T : TypeId} {v v0 : Value} {e : TypeId} {size : Nat} {xs : List Value} {o : Obj} (hbx : Boxed W p T v0) (how : W.ownsRow (pn + 1) e size v n xs) (hp : p ≤ pn) (hg : (W.alloc o).grownBy w1 v.ownBlock) : Boxed w1 p T v0 := by
  have hlt : p < W.heap.size := (Array.getElem?_eq_some_iff.1 (show W.heap[p]? = _ from hbx)).1
  refine (hg.block p (by rw [World.size_alloc]; omega) (fun e => ?_)).trans ((heapOld _ _ _ hlt).trans hbx)
  have := (how.lt p e.symm).1
  omega

set_option maxRecDepth 100000 in
set_option maxHeartbeats 4000000 in
theorem tells18 (l n : Nat) (u0 u1 u4 u5 u10 u11 u12 u13 u14 u15 u16 u17 u18 u19 u20 u21 u22 u23 u24 u25 u26 u27 u28 u29 u30 u31 u32 u33 u34 u35 u36 u37 u38 u39 u40 u41 u42 u43 u44 u45 u46 u47 u48 u49 u50 u51 u52 u53 u54 u55 u56 u57 u58 u59 u60 u61 u62 u63 u64 u65 u66 u67 u68 u69 u70 u71 u72 u73 u74 u75 u76 u77 u78 u79 u80 u81 u82 u83 u84 u85 u86 u87 u88 u89 u90 u91 u92 u93 u94 u95 u96 u97 u98 u99 u100 u101 u102 u103 u104 u105 u106 u107 u108 u109 u110 u111 u112 u113 u114 u115 u116 u117 u118 u119 u120 u121 u122 u123 u124 u125 u126 u127 u128 u129 u130 u131 u132 u133 u134 u135 u136 u137 u138 u139 u140 u141 u142 u143 u144 u145 u146 u147 u148 u149 u150 u151 u152 u153 u154 u155 u156 u157 u158 u159 u160 u161 u162 u163 u164 : Value) (b0 p3 pk pw pn q : Nat) (W : World) (y : Tr) (Ay : Option Addr) (cy : Nat) (ar : List (Cn × Cn)) (hq : W.heap[q]? = some (.cells (nodeA y.d Ay y.l.length cy) 34)) (hwn : Wnt W pw pn ar) (hpw : pw ≤ pn) (hpl : pn < W.heap.size) (har : ar.length < 1000000) (K : Act → World → Prop) (Q : Exit → Act → World → Prop) (hLo : ¬ LetsOut (Exit.then K Q))
    (hK : ∀ (u0 u1 u4 u5 u10 u11 u12 u13 u14 u15 u16 u17 u18 u19 u20 u21 u22 u23 u24 u25 u26 u27 u28 u29 u30 u31 u32 u33 u34 u35 u36 u37 u38 u39 u40 u41 u42 u43 u44 u45 u46 u47 u48 u49 u50 u51 u52 u53 u54 u55 u56 u57 u58 u59 u60 u61 u62 u63 u64 u65 u66 u67 u68 u69 u70 u71 u72 u73 u74 u75 u76 u77 u78 u79 u80 u81 u82 u83 u84 u85 u86 u87 u88 u89 u90 u91 u92 u93 u94 u95 u96 u97 u98 u99 u100 u101 u102 u103 u104 u105 u106 u107 u108 u109 u110 u111 u112 u113 u114 u115 u116 u117 u118 u119 u120 u121 u122 u123 u124 u125 u126 u127 u128 u129 u130 u131 u132 u133 u134 u135 u136 u137 u138 u139 u140 u141 u142 u143 u144 u145 u146 u147 u148 u149 u150 u151 u152 u153 u154 u155 u156 u157 u158 u159 u160 u161 u162 u163 u164 : Value) (W' : World), Wnt W' pw pn (ar ++ (areaD y.d).toList) → Ch (fun j => j = pw ∨ (∃ cs, W.heap[j]? = some (.cells cs 31) ∧ pn + 1 ≤ j)) W W' → K ⟨#[u0, u1, .pointer (some ⟨b0 + 1, 0, none⟩), .pointer (some ⟨p3, 0, none⟩), u4, u5, .pointer (some ⟨pk, 0, none⟩), .pointer (some ⟨pw, 0, none⟩), .pointer (some ⟨pn, 0, none⟩), .pointer (some ⟨q, 0, none⟩), u10, u11, u12, u13, u14, u15, u16, u17, u18, u19, u20, u21, u22, u23, u24, u25, u26, u27, u28, u29, u30, u31, u32, u33, u34, u35, u36, u37, u38, u39, u40, u41, u42, u43, u44, u45, u46, u47, u48, u49, u50, u51, u52, u53, u54, u55, u56, u57, u58, u59, u60, u61, u62, u63, u64, u65, u66, u67, u68, u69, u70, u71, u72, u73, u74, u75, u76, u77, u78, u79, u80, u81, u82, u83, u84, u85, u86, u87, u88, u89, u90, u91, u92, u93, u94, u95, u96, u97, u98, u99, u100, u101, u102, u103, u104, u105, u106, u107, u108, u109, u110, u111, u112, u113, u114, u115, u116, u117, u118, u119, u120, u121, u122, u123, u124, u125, u126, u127, u128, u129, u130, u131, u132, u133, u134, u135, u136, u137, u138, u139, u140, u141, u142, u143, u144, u145, u146, u147, u148, u149, u150, u151, u152, u153, u154, u155, u156, u157, u158, u159, u160, u161, u162, u163, u164], []⟩ W') :
    (fstC (sndC tellsB)).wpIn (Fence.wide.inRound l) n Tryd.prog (Exit.then K Q) ⟨#[u0, u1, .pointer (some ⟨b0 + 1, 0, none⟩), .pointer (some ⟨p3, 0, none⟩), u4, u5, .pointer (some ⟨pk, 0, none⟩), .pointer (some ⟨pw, 0, none⟩), .pointer (some ⟨pn, 0, none⟩), .pointer (some ⟨q, 0, none⟩), u10, u11, u12, u13, u14, u15, u16, u17, u18, u19, u20, u21, u22, u23, u24, u25, u26, u27, u28, u29, u30, u31, u32, u33, u34, u35, u36, u37, u38, u39, u40, u41, u42, u43, u44, u45, u46, u47, u48, u49, u50, u51, u52, u53, u54, u55, u56, u57, u58, u59, u60, u61, u62, u63, u64, u65, u66, u67, u68, u69, u70, u71, u72, u73, u74, u75, u76, u77, u78, u79, u80, u81, u82, u83, u84, u85, u86, u87, u88, u89, u90, u91, u92, u93, u94, u95, u96, u97, u98, u99, u100, u101, u102, u103, u104, u105, u106, u107, u108, u109, u110, u111, u112, u113, u114, u115, u116, u117, u118, u119, u120, u121, u122, u123, u124, u125, u126, u127, u128, u129, u130, u131, u132, u133, u134, u135, u136, u137, u138, u139, u140, u141, u142, u143, u144, u145, u146, u147, u148, u149, u150, u151, u152, u153, u154, u155, u156, u157, u158, u159, u160, u161, u162, u163, u164], []⟩ W := by
  dsimp only
  dsimp only at hK
  conv => arg 4; whnf
  obtain ⟨wv, hwb, hwr⟩ := hwn
  have hcw := hwb.cell
  obtain ⟨kd, hkd⟩ : ∃ kd, kd = y.d.kind := ⟨_, rfl⟩
  have hck : W.cell? ⟨q, 0, none⟩ = some (.int .i64 kd) := by rw [Lib.cell_of_heap hq, hkd]; rfl
  have hX : (arC (y.d.a, y.d.b)).toArray.size = 12 := rfl
  obtain ⟨X, hXe⟩ : ∃ X, X = arC (y.d.a, y.d.b) := ⟨_, rfl⟩
  rw [← hXe] at hX
  have hXr : W.rangeAt q 8 X := by
    intro j u hu
    rw [hXe] at hu
    refine cell_of_row W q (8 + j) _ _ _ hq |>.trans ?_
    exact area_cells y.d Ay y.l.length cy j u hu
  have hXi : (Tryd.prog.info? 31).map (·.size) = some X.length := by rw [hXe]; exact infA
  have HXR := Lib.hid hXr
  have HXI := Lib.hid hXi
  have HXE := Lib.hid hXe
  have hXs : X.toArray.size = 12 := hX
  have HKD := Lib.hid hkd
  have HWB := Lib.hid hwb
  have HWR := Lib.hid hwr
  have HK := Lib.hid hK
  have HLO := Lib.hid hLo
  have HLW := Lib.hid hpw
  have HLT := Lib.hid hpl
  obtain ⟨ti, hti⟩ : ∃ ti, Tryd.prog.info? 31 = some ti := by
    have := infA
    cases h : Tryd.prog.info? 31 with
    | none => rw [h] at this; cases this
    | some ti => exact ⟨ti, rfl⟩
  have hz0 := zeroA
  have hz1 := infA
  have hz2 := bytA
  have hz3 := zcA
  rw [hti] at hz0 hz1 hz2 hz3
  simp only [Option.map_some, Option.some.injEq, Option.bind_some] at hz0 hz1 hz2 hz3
  obtain ⟨z, hzz⟩ := Option.isSome_iff_exists.1 hz0
  rw [hzz] at hz3
  simp only [Option.map_some, Option.some.injEq] at hz3
  have HTI := Lib.hid hti
  have HZ1 := Lib.hid hz1
  have HZ2 := Lib.hid hz2
  have HZZ := Lib.hid hzz
  have HZ3 := Lib.hid hz3
  clear hz0 hz1 hz2 hz3 hti hzz hXr hXi hXe hX hkd hwb hwr hK hLo hq hpw hpl
  have KIND : (kd = 1 ∨ kd = 3 ∨ kd = 2) ∨ (¬ kd = 1 ∧ ¬ kd = 3 ∧ ¬ kd = 2) := by omega
  rcases KIND with (h | h | h) | ⟨h1, h2, h3⟩
  · subst h
    as_aux_lemma =>
    have hac : areaD y.d = some (y.d.a, y.d.b) := by unfold areaD; rw [← HKD.out, if_pos (by omega)]
    have HAC := Lib.hid hac
    clear hac
    refine wpIn_seq ?_
    refine wpIn_region_lit ?_
    refine wpListIn_of (by rintro ⟨a', w', h⟩; exact HLO.out ⟨a', w', h⟩) _ _ _ (by intro o ho c hc; simp only [List.mem_cons, List.not_mem_nil, or_false] at ho; rcases ho with rfl | rfl | rfl | rfl | rfl | rfl | rfl | rfl | rfl | rfl | rfl | rfl | rfl <;> cases hc) ?_
    go_wp2
    refine wpIn_cond_true rfl ?_
    refine wpIn_region_lit ?_
    refine wpListIn_of (by rintro ⟨a', w', h⟩; exact HLO.out ⟨a', w', h⟩) _ _ _ (by intro o ho c hc; simp only [List.mem_cons, List.not_mem_nil, or_false] at ho; rcases ho with rfl | rfl | rfl | rfl | rfl | rfl <;> cases hc) ?_
    go_wp2_with (first | (refine wpList_mid rfl 31 _ rfl q 8 rfl X _ HXR.out undA rfl HXI.out ?_) | (refine wpList_oneArea rfl _ rfl X.toArray rfl hXs ?_) | (refine wpList_append_own_at _ rfl _ _ 43 rfl (pn + 1) 31 ti z 12 80 undAs HTI.out HZZ.out HZ1.out HZ2.out HZ3.out (by decide) wv ar.length (ar.flatMap arC) rfl (HWR.out.alloc _) ⟨W.heap.size, 0, none⟩ 1 1 X.toArray.toList rfl (by simpa using hXs) (World.news_of_block (heap_alloc_new W _)) (by rw [HXE.out]; intro u hu; exact arC_one _ u (by simpa using hu)) (by unfold maxLen; omega) (by omega) (by have := HLT.out; simp; omega) ?_; intro v' w1 hown hgrow hnil hat; clear hnil hat; obtain ⟨g, cap, cur, rfl, -⟩ := own_form hown (by omega); have hbx1 := box_pw HWB.out HWR.out HLW.out hgrow; have hcc := hbx1.cell; have hff := hbx1.frozen))
    have hown' : w1.ownsRow (pn + 1) 31 12 (.slice (some ⟨g, 0, none⟩) (ar.length + 1) cap) (ar.length + 1) (ar.flatMap arC ++ arC (y.d.a, y.d.b)) := by rw [HXE.out] at hown; exact hown
    have hw2 : Wnt (w1.setCell ⟨pw, 0, none⟩ (.slice (some ⟨g, 0, none⟩) (ar.length + 1) cap)) pw pn (ar ++ (areaD y.d).toList) := by
      rw [HAC.out]
      refine ⟨_, hbx1.set _, ?_⟩
      have := own_fresh (v' := .slice (some ⟨g, 0, none⟩) (ar.length + 1) cap) hown' pw (by have := HLW.out; omega)
      simpa [List.flatMap_append] using this
    have hch : Ch (fun j => j = pw ∨ (∃ cs, W.heap[j]? = some (.cells cs 31) ∧ pn + 1 ≤ j)) W (w1.setCell ⟨pw, 0, none⟩ (.slice (some ⟨g, 0, none⟩) (ar.length + 1) cap)) :=
      (Ch.push (p := pw) hgrow).mono (fun j hj => hj.imp id (fun e => by obtain ⟨h1, cur, h2⟩ := own_of HWR.out j e; exact ⟨cur, h2, h1⟩))
    exact HK.out _ _ _ _ _ _ _ _ _ _ _ _ _ _ _ _ _ _ _ _ _ _ _ _ _ _ _ _ _ _ _ _ _ _ _ _ _ _ _ _ _ _ _ _ _ _ _ _ _ _ _ _ _ _ _ _ _ _ _ _ _ _ _ _ _ _ _ _ _ _ _ _ _ _ _ _ _ _ _ _ _ _ _ _ _ _ _ _ _ _ _ _ _ _ _ _ _ _ _ _ _ _ _ _ _ _ _ _ _ _ _ _ _ _ _ _ _ _ _ _ _ _ _ _ _ _ _ _ _ _ _ _ _ _ _ _ _ _ _ _ _ _ _ _ _ _ _ _ _ _ _ _ _ _ _ _ _ _ _ _ hw2 hch
  · subst h
    as_aux_lemma =>
    have hac : areaD y.d = some (y.d.a, y.d.b) := by unfold areaD; rw [← HKD.out, if_pos (by omega)]
    have HAC := Lib.hid hac
    clear hac
    refine wpIn_seq ?_
    refine wpIn_region_lit ?_
    refine wpListIn_of (by rintro ⟨a', w', h⟩; exact HLO.out ⟨a', w', h⟩) _ _ _ (by intro o ho c hc; simp only [List.mem_cons, List.not_mem_nil, or_false] at ho; rcases ho with rfl | rfl | rfl | rfl | rfl | rfl | rfl | rfl | rfl | rfl | rfl | rfl | rfl <;> cases hc) ?_
    go_wp2
    refine wpIn_cond_true rfl ?_
    refine wpIn_region_lit ?_
    refine wpListIn_of (by rintro ⟨a', w', h⟩; exact HLO.out ⟨a', w', h⟩) _ _ _ (by intro o ho c hc; simp only [List.mem_cons, List.not_mem_nil, or_false] at ho; rcases ho with rfl | rfl | rfl | rfl | rfl | rfl <;> cases hc) ?_
    go_wp2_with (first | (refine wpList_mid rfl 31 _ rfl q 8 rfl X _ HXR.out undA rfl HXI.out ?_) | (refine wpList_oneArea rfl _ rfl X.toArray rfl hXs ?_) | (refine wpList_append_own_at _ rfl _ _ 43 rfl (pn + 1) 31 ti z 12 80 undAs HTI.out HZZ.out HZ1.out HZ2.out HZ3.out (by decide) wv ar.length (ar.flatMap arC) rfl (HWR.out.alloc _) ⟨W.heap.size, 0, none⟩ 1 1 X.toArray.toList rfl (by simpa using hXs) (World.news_of_block (heap_alloc_new W _)) (by rw [HXE.out]; intro u hu; exact arC_one _ u (by simpa using hu)) (by unfold maxLen; omega) (by omega) (by have := HLT.out; simp; omega) ?_; intro v' w1 hown hgrow hnil hat; clear hnil hat; obtain ⟨g, cap, cur, rfl, -⟩ := own_form hown (by omega); have hbx1 := box_pw HWB.out HWR.out HLW.out hgrow; have hcc := hbx1.cell; have hff := hbx1.frozen))
    have hown' : w1.ownsRow (pn + 1) 31 12 (.slice (some ⟨g, 0, none⟩) (ar.length + 1) cap) (ar.length + 1) (ar.flatMap arC ++ arC (y.d.a, y.d.b)) := by rw [HXE.out] at hown; exact hown
    have hw2 : Wnt (w1.setCell ⟨pw, 0, none⟩ (.slice (some ⟨g, 0, none⟩) (ar.length + 1) cap)) pw pn (ar ++ (areaD y.d).toList) := by
      rw [HAC.out]
      refine ⟨_, hbx1.set _, ?_⟩
      have := own_fresh (v' := .slice (some ⟨g, 0, none⟩) (ar.length + 1) cap) hown' pw (by have := HLW.out; omega)
      simpa [List.flatMap_append] using this
    have hch : Ch (fun j => j = pw ∨ (∃ cs, W.heap[j]? = some (.cells cs 31) ∧ pn + 1 ≤ j)) W (w1.setCell ⟨pw, 0, none⟩ (.slice (some ⟨g, 0, none⟩) (ar.length + 1) cap)) :=
      (Ch.push (p := pw) hgrow).mono (fun j hj => hj.imp id (fun e => by obtain ⟨h1, cur, h2⟩ := own_of HWR.out j e; exact ⟨cur, h2, h1⟩))
    exact HK.out _ _ _ _ _ _ _ _ _ _ _ _ _ _ _ _ _ _ _ _ _ _ _ _ _ _ _ _ _ _ _ _ _ _ _ _ _ _ _ _ _ _ _ _ _ _ _ _ _ _ _ _ _ _ _ _ _ _ _ _ _ _ _ _ _ _ _ _ _ _ _ _ _ _ _ _ _ _ _ _ _ _ _ _ _ _ _ _ _ _ _ _ _ _ _ _ _ _ _ _ _ _ _ _ _ _ _ _ _ _ _ _ _ _ _ _ _ _ _ _ _ _ _ _ _ _ _ _ _ _ _ _ _ _ _ _ _ _ _ _ _ _ _ _ _ _ _ _ _ _ _ _ _ _ _ _ _ _ _ _ hw2 hch
  · subst h
    as_aux_lemma =>
    have hac : areaD y.d = some (y.d.a, y.d.b) := by unfold areaD; rw [← HKD.out, if_pos (by omega)]
    have HAC := Lib.hid hac
    clear hac
    refine wpIn_seq ?_
    refine wpIn_region_lit ?_
    refine wpListIn_of (by rintro ⟨a', w', h⟩; exact HLO.out ⟨a', w', h⟩) _ _ _ (by intro o ho c hc; simp only [List.mem_cons, List.not_mem_nil, or_false] at ho; rcases ho with rfl | rfl | rfl | rfl | rfl | rfl | rfl | rfl | rfl | rfl | rfl | rfl | rfl <;> cases hc) ?_
    go_wp2
    refine wpIn_cond_true rfl ?_
    refine wpIn_region_lit ?_
    refine wpListIn_of (by rintro ⟨a', w', h⟩; exact HLO.out ⟨a', w', h⟩) _ _ _ (by intro o ho c hc; simp only [List.mem_cons, List.not_mem_nil, or_false] at ho; rcases ho with rfl | rfl | rfl | rfl | rfl | rfl <;> cases hc) ?_
    go_wp2_with (first | (refine wpList_mid rfl 31 _ rfl q 8 rfl X _ HXR.out undA rfl HXI.out ?_) | (refine wpList_oneArea rfl _ rfl X.toArray rfl hXs ?_) | (refine wpList_append_own_at _ rfl _ _ 43 rfl (pn + 1) 31 ti z 12 80 undAs HTI.out HZZ.out HZ1.out HZ2.out HZ3.out (by decide) wv ar.length (ar.flatMap arC) rfl (HWR.out.alloc _) ⟨W.heap.size, 0, none⟩ 1 1 X.toArray.toList rfl (by simpa using hXs) (World.news_of_block (heap_alloc_new W _)) (by rw [HXE.out]; intro u hu; exact arC_one _ u (by simpa using hu)) (by unfold maxLen; omega) (by omega) (by have := HLT.out; simp; omega) ?_; intro v' w1 hown hgrow hnil hat; clear hnil hat; obtain ⟨g, cap, cur, rfl, -⟩ := own_form hown (by omega); have hbx1 := box_pw HWB.out HWR.out HLW.out hgrow; have hcc := hbx1.cell; have hff := hbx1.frozen))
    have hown' : w1.ownsRow (pn + 1) 31 12 (.slice (some ⟨g, 0, none⟩) (ar.length + 1) cap) (ar.length + 1) (ar.flatMap arC ++ arC (y.d.a, y.d.b)) := by rw [HXE.out] at hown; exact hown
    have hw2 : Wnt (w1.setCell ⟨pw, 0, none⟩ (.slice (some ⟨g, 0, none⟩) (ar.length + 1) cap)) pw pn (ar ++ (areaD y.d).toList) := by
      rw [HAC.out]
      refine ⟨_, hbx1.set _, ?_⟩
      have := own_fresh (v' := .slice (some ⟨g, 0, none⟩) (ar.length + 1) cap) hown' pw (by have := HLW.out; omega)
      simpa [List.flatMap_append] using this
    have hch : Ch (fun j => j = pw ∨ (∃ cs, W.heap[j]? = some (.cells cs 31) ∧ pn + 1 ≤ j)) W (w1.setCell ⟨pw, 0, none⟩ (.slice (some ⟨g, 0, none⟩) (ar.length + 1) cap)) :=
      (Ch.push (p := pw) hgrow).mono (fun j hj => hj.imp id (fun e => by obtain ⟨h1, cur, h2⟩ := own_of HWR.out j e; exact ⟨cur, h2, h1⟩))
    exact HK.out _ _ _ _ _ _ _ _ _ _ _ _ _ _ _ _ _ _ _ _ _ _ _ _ _ _ _ _ _ _ _ _ _ _ _ _ _ _ _ _ _ _ _ _ _ _ _ _ _ _ _ _ _ _ _ _ _ _ _ _ _ _ _ _ _ _ _ _ _ _ _ _ _ _ _ _ _ _ _ _ _ _ _ _ _ _ _ _ _ _ _ _ _ _ _ _ _ _ _ _ _ _ _ _ _ _ _ _ _ _ _ _ _ _ _ _ _ _ _ _ _ _ _ _ _ _ _ _ _ _ _ _ _ _ _ _ _ _ _ _ _ _ _ _ _ _ _ _ _ _ _ _ _ _ _ _ _ _ _ _ hw2 hch
  · as_aux_lemma =>
    have q1 : (kd == 1) = false := by simpa using h1
    have q2 : (kd == 3) = false := by simpa using h2
    have q3 : (kd == 2) = false := by simpa using h3
    have q4 : decide (kd = 1) = false := by simpa using h1
    have q5 : decide (kd = 3) = false := by simpa using h2
    have q6 : decide (kd = 2) = false := by simpa using h3
    have hac : areaD y.d = none := by unfold areaD; rw [← HKD.out, if_neg (by omega)]
    have HAC := Lib.hid hac
    clear hac
    refine wpIn_seq ?_
    refine wpIn_region_lit ?_
    refine wpListIn_of (by rintro ⟨a', w', h⟩; exact HLO.out ⟨a', w', h⟩) _ _ _ (by intro o ho c hc; simp only [List.mem_cons, List.not_mem_nil, or_false] at ho; rcases ho with rfl | rfl | rfl | rfl | rfl | rfl | rfl | rfl | rfl | rfl | rfl | rfl | rfl <;> cases hc) ?_
    go_wp2
    refine wpIn_cond_false rfl ?_
    refine wpIn_skip ?_
    exact HK.out _ _ _ _ _ _ _ _ _ _ _ _ _ _ _ _ _ _ _ _ _ _ _ _ _ _ _ _ _ _ _ _ _ _ _ _ _ _ _ _ _ _ _ _ _ _ _ _ _ _ _ _ _ _ _ _ _ _ _ _ _ _ _ _ _ _ _ _ _ _ _ _ _ _ _ _ _ _ _ _ _ _ _ _ _ _ _ _ _ _ _ _ _ _ _ _ _ _ _ _ _ _ _ _ _ _ _ _ _ _ _ _ _ _ _ _ _ _ _ _ _ _ _ _ _ _ _ _ _ _ _ _ _ _ _ _ _ _ _ _ _ _ _ _ _ _ _ _ _ _ _ _ _ _ _ _ _ _ _ W (by rw [HAC.out]; show Wnt W pw pn (ar ++ []); rw [List.append_nil]; exact ⟨wv, HWB.out, HWR.out⟩) (Ch.refl _ _)
end Go.Proofs.YtggpffipijoddaaDoor
