/- TreeAdds: the range over all areas. TreeAdds: the range over all areas, and what comes behind the loop. TreeAdds: the whole walk. -/
import Derived.Test.YtggpffipijoddaaDoorYaYbYc
import Derived.Test.YtggpffipijoddaaDoorNwZnCu
import Derived.StillTactics
import Derived.Test.YtggpffipijoddaaDoorAwM
import Derived.Test.YtggpffipijoddaaDoorOvNoGt
namespace Go.Proofs.YtggpffipijoddaaDoor
open Go Go.RowKit Go.Shelf
attribute [local go_sem] Oper.semAt_some

theorem wpOpIn_of {l n : Nat} {P : Program} {ops : Array Oper} {Q : Exit → Act → World → Prop} (hQ : ¬ LetsOut Q) (hd : ∀ o ∈ ops, ∀ c, o.op ≠ .defer c) {i : Nat} {K : Act → World → Prop} {a : Act} {w : World} (h : wpOp P ops Q i K a w) : wpOpIn (Fence.wide.inRound l) n P ops Q i K a w := by
  unfold wpOp at h
  unfold wpOpIn
  cases hi : ops[i]? with
  | none => rw [hi] at h; exact h
  | some o =>
    rw [hi] at h
    dsimp only at h ⊢
    have hm : o ∈ ops := Array.mem_of_getElem? hi
    by_cases hw : Region.wanted o (yielded ops a.tmps) = true
    · rw [if_pos hw] at h ⊢
      rcases h with h | h
      · exact wpIn_of_wp' (hd o hm) h
      · exact absurd h.2 hQ
    · rw [if_neg hw] at h ⊢
      exact ⟨fun _ _ => trivial, h⟩
theorem wpAnyIn_of {l n : Nat} {P : Program} {md : Region.Mode} {ops : Array Oper} {Q : Exit → Act → World → Prop} (hQ : ¬ LetsOut Q) (hd : ∀ o ∈ ops, ∀ c, o.op ≠ .defer c) : ∀ (fuel : Nat) (listed : Array Bool) (a : Act) (w : World), wpAny P md ops Q fuel listed a w → wpAnyIn (Fence.wide.inRound l) n P md ops Q fuel listed a w
  | 0, _, _, _, h => h
  | fuel + 1, _listed, _a, _w, h => ⟨h.1, fun i hi => wpOpIn_mono (fun a w hk => wpAnyIn_of hQ hd fuel _ a w hk) (wpOpIn_of hQ hd (h.2 i hi))⟩
/-- a region that draws its order and reads alone, in a round. -/
theorem wpIn_region_still {r n id : Nat} {P : Program} {Q : Exit → Act → World → Prop} {a : Act} {w : World} {l : List Oper} (hm : P.follows .mixedOrders = true) (hB : Region.lexB .any l.toArray = true) (hQ : ¬ LetsOut Q) (hd : ∀ o ∈ l, ∀ c, o.op ≠ .defer c)
    (h : wpStill P l.toArray { w with drawn := w.drawn + 1 } (fun a' => Q .normal a' { w with drawn := w.drawn + 1 }) l a) : (Code.region id l.toArray true).wpIn (Fence.wide.inRound r) n P Q a w := by
  simp only [Region.lexB, Bool.and_eq_true] at hB
  refine wpIn_region_any hm (wpAnyIn_of hQ (fun o ho => hd o (by simpa using ho)) _ _ _ _ (wpAny_of_still (Q := fun a' => Q .normal a' { w with drawn := w.drawn + 1 }) (fun _ h => h) _ _ _ ?_))
  have := wpAnyS_lex (md := .any) hB.1 l 0 (Array.replicate l.toArray.size false) a (by simp) (by simpa using hB.2) (by simpa using h)
  simpa using this

theorem eqAr (w : World) (x y : Cn × Cn) : (Op.equalIn 10000 31 (.agg (arC x).toArray) (.agg (arC y).toArray)).run Tryd.prog w = .ok (decide (x = y)) w := by
  have h := eqA w x.1 x.2 y.1 y.2
  have e : decide (x = y) = decide (x.1 = y.1 ∧ x.2 = y.2) := by
    obtain ⟨x1, x2⟩ := x
    obtain ⟨y1, y2⟩ := y
    simp only [Prod.mk.injEq]
  rw [e]; exact h
theorem still_one {P : Program} {ops : Array Oper} {rest : List Oper} {o : Oper} {a : Act} {w : World} {Q : Act → Prop} (v : Value) (hw : Region.wanted o (yielded ops a.tmps) = true) (hr : (execOp a.eval o).run P w = .ok (.value v) w) (h : ∀ a', a' = a.put o.dst v → wpStill P ops w Q rest a') : wpStill P ops w Q (o :: rest) a := by
  unfold wpStill
  rw [if_pos hw]
  unfold Oper.still
  rw [hr]
  exact ⟨rfl, h _ rfl⟩
theorem still_off {P : Program} {ops : Array Oper} {rest : List Oper} {o : Oper} {a : Act} {w : World} {Q : Act → Prop} (hw : Region.wanted o (yielded ops a.tmps) = false) (h : ∀ a', a' = a.put o.dst undef → wpStill P ops w Q rest a') : wpStill P ops w Q (o :: rest) a := by
  unfold wpStill
  rw [if_neg (by rw [hw]; decide)]
  exact h _ rfl
theorem ld_int {o : Oper} {ρ : Operand → Value} {w : World} (x : Operand) (ho : o.op = .load 3 x) (p : Addr) (hx : ρ x = .pointer (some p)) (v : Value) (hc : w.cell? p = some v) : (execOp ρ o).run Tryd.prog w = .ok (.value v) w := by
  unfold execOp
  simp only [ho, hx]
  simp [go_sem, hc]
theorem ld_sl {o : Oper} {ρ : Operand → Value} {w : World} (x : Operand) (ho : o.op = .load 43 x) (p : Addr) (hx : ρ x = .pointer (some p)) (v : Value) (hc : w.cell? p = some v) : (execOp ρ o).run Tryd.prog w = .ok (.value v) w := by
  unfold execOp
  simp only [ho, hx]
  simp [go_sem, hc]
theorem ld_row {o : Oper} {ρ : Operand → Value} {w : World} (x : Operand) (ho : o.op = .load 31 x) (b k : Nat) (hx : ρ x = .pointer (some ⟨b, k, none⟩)) (cs : List Value) (hc : w.rangeAt b k cs) (hi : (Tryd.prog.info? 31).map (·.size) = some cs.length) : (execOp ρ o).run Tryd.prog w = .ok (.value (.agg cs.toArray)) w := by
  unfold execOp
  simp only [ho, hx, Instr.loadAt, Instr.sureAddr, Sem.run_bind, Sem.run_pure, Result.andThen_ok, run_loadVar_mid w b k 31 cs _ hc undA rfl hi]
theorem ix_at {o : Oper} {ρ : Operand → Value} {w : World} (x y : Operand) (ho : o.op = .indexAddr 43 x y) (g ln cap i : Nat) (hx : ρ x = .slice (some ⟨g, 0, none⟩) ln cap) (hy : ρ y = .int .i64 i) (hi : i < ln) : (execOp ρ o).run Tryd.prog w = .ok (.value (.pointer (some ⟨g, i * 12, none⟩))) w := by
  have h1 : (0 : Int) ≤ i := by omega
  have h2 : (i : Int) < ln := by omega
  unfold execOp
  simp only [ho, hx, hy]
  simp [go_sem, h1, h2]
theorem ne_at {o : Oper} {ρ : Operand → Value} {w : World} (x y : Operand) (ho : o.op = .binOp .neq 31 x y 31) (X Y : Cn × Cn) (hx : ρ x = .agg (arC X).toArray) (hy : ρ y = .agg (arC Y).toArray) : (execOp ρ o).run Tryd.prog w = .ok (.value (.bool (!decide (X = Y)))) w := by
  have h := eqAr w X Y
  obtain ⟨xa, hxa⟩ : ∃ xa, xa = (arC X).toArray := ⟨_, rfl⟩
  obtain ⟨ya, hya⟩ : ∃ ya, ya = (arC Y).toArray := ⟨_, rfl⟩
  rw [← hxa, ← hya] at h
  rw [← hxa] at hx
  rw [← hya] at hy
  have h0 : (binOp .neq 31 (.agg xa) (.agg ya)) = ((Op.equalIn 10000 31 (.agg xa) (.agg ya)) >>= fun b => pure (.bool (!b))) := rfl
  have h1 : (binOp .neq 31 (.agg xa) (.agg ya)).run Tryd.prog w = .ok (.bool (!decide (X = Y))) w := by
    rw [h0, Sem.run_bind, h]; rfl
  unfold execOp
  have h2 : (eqGuard .neq 31 x y (.agg xa) (.agg ya)).run Tryd.prog w = .ok () w := by kernel_rfl
  simp only [ho, hx, hy, Sem.run_bind, h2, h1, Result.andThen_ok]
  rfl
theorem len_at {o : Oper} {ρ : Operand → Value} {w : World} (x : Operand) (ho : o.op = .call { callee := .builtin .len, args := #[x], argTypes := #[43] }) (A : Option Addr) (n c : Nat) (hx : ρ x = .slice A n c) (hty : o.type = 3) (_hn : n ≤ 9223372036854775807) : (execOp ρ o).run Tryd.prog w = .ok (.value (.int .i64 n)) w := by
  unfold execOp
  simp only [ho, hty]
  simp [go_sem, hx]
theorem ge_at {o : Oper} {ρ : Operand → Value} {w : World} (x y : Operand) (ho : o.op = .binOp .geq 3 x y 3) (i j : Nat) (hx : ρ x = .int .i64 i) (hy : ρ y = .int .i64 j) : (execOp ρ o).run Tryd.prog w = .ok (.value (.bool (decide (j ≤ i)))) w := by
  unfold execOp
  simp only [ho, hx, hy]
  simp [go_sem]
theorem wpIn_region_stillK {r n id : Nat} {P : Program} {Q : Exit → Act → World → Prop} {a : Act} {w : World} {l : List Oper} (hm : P.follows .mixedOrders = true) (hB : Region.lexB .any l.toArray = true) (hQ : ¬ LetsOut Q) (hd : ∀ o ∈ l, ∀ c, o.op ≠ .defer c)
    (h : ∀ Qx : Act → Prop, (∀ a', Q .normal a' w.drew → Qx a') → wpStill P l.toArray w.drew Qx l a) : (Code.region id l.toArray true).wpIn (Fence.wide.inRound r) n P Q a w :=
  wpIn_region_still hm hB hQ hd (h _ (fun _ h => h))
theorem area_range {W : World} {q : Nat} {cs : List Value} (h : W.heap[q]? = some (.cells cs.toArray 31)) : W.rangeAt q 0 cs := fun j v hv => by
  rw [Nat.zero_add]
  exact cell_of_row W q j _ _ _ (by rw [h]) |>.trans (by simpa using hv)
theorem flat_at : ∀ (L : List (Cn × Cn)) (i : Nat) (h : i < L.length) (j : Nat) (_ : j < 12), (L.flatMap arC)[i * 12 + j]? = (arC L[i])[j]?
  | [], i, h, _, _ => by simp at h
  | x :: L, 0, _, j, hj => by
    simp only [List.flatMap_cons, Nat.zero_mul, Nat.zero_add, List.getElem_cons_zero]
    rw [List.getElem?_append_left (by rw [arC_len]; exact hj)]
  | x :: L, i + 1, h, j, hj => by
    simp only [List.flatMap_cons, List.getElem_cons_succ]
    rw [List.getElem?_append_right (by rw [arC_len]; omega), arC_len, show (i + 1) * 12 + j - 12 = i * 12 + j by omega]
    exact flat_at L i (by simpa using h) j hj
/-- the slice of what was gathered. -/
theorem TA.slice {B0 b0 a0 : Nat} {w W : World} {N : Array Value} {L : List (Cn × Cn)} {ds : List Deferred} (h : TA B0 b0 a0 w N L ds W) : ∃ (Aa : Option Addr) (cap : Nat), Boxed W a0 43 (.slice Aa L.length cap) ∧ ∀ i (hi : i < L.length), ∃ g, Aa = some ⟨g, 0, none⟩ ∧ L.length ≤ cap ∧ cap ≤ 9223372036854775807 ∧ W.rangeAt g (i * 12) (arC L[i]) := by
  obtain ⟨v, h1, h2⟩ := h.arr
  rcases h2.2 with ⟨rfl, h3⟩ | ⟨g, cap, cur, rfl, h3, h4, h5, h6, -⟩
  · refine ⟨none, 0, by rw [h3]; exact h1, fun i hi => by omega⟩
  · refine ⟨_, cap, h1, fun i hi => ⟨g, rfl, h5, by have := h6; unfold maxLen at this; omega, fun j u hu => ?_⟩⟩
    have hj : j < 12 := (List.getElem?_eq_some_iff.1 hu).1
    have := h2.cellAt (i * 12 + j) (by omega)
    rw [this, flat_at L i hi j hj]; exact hu
theorem TA.put {B0 b0 a0 kb : Nat} {w W : World} {N : Array Value} {L : List (Cn × Cn)} {ds : List Deferred} (h : TA B0 b0 a0 w N L ds W) {u : Value} (hb : b0 + 1 < a0) (hB0 : B0 ≤ b0) (hk : a0 < kb) (hbx : Boxed W kb 3 u) (v : Value) : TA B0 b0 a0 w N L ds (W.setCell ⟨kb, 0, none⟩ v) := by
  obtain ⟨v1, h1, h2⟩ := h.arr
  obtain ⟨u1, h3⟩ := h.res
  have hs : ∀ k, k ≠ kb → (W.setCell ⟨kb, 0, none⟩ v).heap[k]? = W.heap[k]? := fun k hk => Below.heap_setCell W _ v k (fun e => hk e)
  refine ⟨h.below.setCell (by simp; omega) _, (hs _ (by omega)).trans h.node, ⟨u1, (hs _ (by omega)).trans h3⟩, ⟨v1, (hs _ (by omega)).trans h1, own_same h2 (fun g cs hc _ => hs g (fun e => ?_))⟩, h.marks.keep (fun k _ hc => (hs k (fun e => ?_)).trans hc), Nat.lt_of_lt_of_le h.lt ((Below.refl 0 W).setCell (p := ⟨kb, 0, none⟩) (Nat.zero_le _) v).size⟩
  · subst e
    have : W.heap[g]? = _ := hbx
    rw [hc] at this
    simp only [Option.some.injEq, Obj.cells.injEq] at this
    exact absurd this.2.1 (by decide)
  · subst e
    have : W.heap[k]? = _ := hbx
    rw [hc] at this; cases this
theorem TA.drew {B0 b0 a0 : Nat} {w W : World} {N : Array Value} {L : List (Cn × Cn)} {ds : List Deferred} (h : TA B0 b0 a0 w N L ds W) : TA B0 b0 a0 w N L ds W.drew := ⟨h.below.drew, h.node, h.res, h.arr, Marks.keep (W := W) (W' := W.drew) (fun _ _ hc => hc) h.marks, h.lt⟩
theorem pre_snoc {α : Type} {pre L : List α} (h : pre <+: L) (x : α) : (pre ++ [x] <+: L) ↔ ∃ hl : pre.length < L.length, L[pre.length] = x := by
  obtain ⟨t, rfl⟩ := h
  constructor
  · rintro ⟨s, hs⟩
    rw [List.append_assoc, List.append_cancel_left_eq] at hs
    subst hs
    exact ⟨by simp, by simp⟩
  · rintro ⟨hl, he⟩
    cases t with
    | nil => simp at hl
    | cons y t =>
      simp at he
      subst he
      exact ⟨t, by simp⟩

set_option maxRecDepth 100000 in
set_option maxHeartbeats 2000000 in
theorem adds2_over (l n : Nat) (u0 u1 u3 u4 u6 u7 u8 u9 u12 u13 u14 u15 u16 u17 u18 u19 u20 u21 u22 u23 u24 u25 u26 u27 u28 u29 u30 u31 u32 u33 u34 u35 u36 u37 u38 u39 u40 u41 u42 u43 u44 u45 u46 u47 u48 u49 u50 u51 u52 u53 u54 u55 u56 u57 u58 u59 u60 u61 u62 u63 u64 u65 u66 u67 u68 u69 u70 u71 u72 u73 u74 u75 u76 u77 u78 u79 u80 u81 u82 u83 u84 u85 u86 u87 u88 u89 u90 u91 u92 u93 u94 u95 u96 u97 u98 u99 u100 u101 u102 u103 u104 u105 u106 u107 u108 u109 u110 : Value) (q B0 b0 a0 r kb B : Nat) (w W : World) (N : Array Value) (L pre : List (Cn × Cn)) (x : Cn × Cn) (ds : List Deferred) (hb : b0 + 1 < a0) (_hB0 : B0 ≤ b0) (hr0 : a0 < r) (hkb : r < kb) (hta : TA B0 b0 a0 w N L ds W) (hk : Boxed W kb 3 (.int .i64 pre.length)) (hpre : pre <+: L) (hq : W.heap[q]? = some (.cells (arC x).toArray 31)) (hz : L.length ≤ 1000) (hkB : kb < B) (hge : L.length ≤ pre.length) :
    (rfBody (rf1 (fromRegion 22 addsC))).wpIn (Fence.wide.inRound l) n Tryd.prog (ownPostG B (KeepTs (r + 1) [85, 77]) (fun (pre : List (Cn × Cn)) W => TA B0 b0 a0 w N L ds W ∧ Boxed W kb 3 (.int .i64 pre.length) ∧ pre <+: L) (fun _ pre _ => ¬ pre <+: L) (pre ++ [x]) W) ⟨#[u0, u1, .pointer (some ⟨b0 + 1, 0, none⟩), u3, u4, .pointer (some ⟨a0, 0, none⟩), u6, u7, u8, u9, .pointer (some ⟨kb, 0, none⟩), .pointer (some ⟨q, 0, none⟩), u12, u13, u14, u15, u16, u17, u18, u19, u20, u21, u22, u23, u24, u25, u26, u27, u28, u29, u30, u31, u32, u33, u34, u35, u36, u37, u38, u39, u40, u41, u42, u43, u44, u45, u46, u47, u48, u49, u50, u51, u52, u53, u54, u55, u56, u57, u58, u59, u60, u61, u62, u63, u64, u65, u66, u67, u68, u69, u70, u71, u72, u73, u74, u75, u76, u77, u78, u79, u80, u81, u82, u83, u84, u85, u86, u87, u88, u89, u90, u91, u92, u93, u94, u95, u96, u97, u98, u99, u100, u101, u102, u103, u104, u105, u106, u107, u108, u109, u110], []⟩ W := by
  dsimp only
  generalize hf0 : Act.mk _ _ = f0
  conv => arg 4; whnf
  have hlen := hpre.length_le
  obtain ⟨Aa, cap, hbx, hrow⟩ := TA.slice hta
  have hbxl := hta.lt
  have HROW := Lib.hid hrow
  have HTA := Lib.hid hta
  have HKB := Lib.hid hk
  have HPR := Lib.hid hpre
  have hck := hk.cell
  have hca := hbx.cell
  obtain ⟨X, hX⟩ : ∃ X, X = arC x := ⟨_, rfl⟩
  have hXi : (Tryd.prog.info? 31).map (·.size) = some X.length := by rw [hX]; exact infA
  have hXr : W.rangeAt q 0 X := by rw [hX]; exact area_range hq
  have HXI := Lib.hid hXi
  have HXR := Lib.hid hXr
  have HX := Lib.hid hX
  obtain ⟨ln, hln⟩ : ∃ ln, ln = L.length := ⟨_, rfl⟩
  obtain ⟨pn, hpn⟩ : ∃ pn, pn = pre.length := ⟨_, rfl⟩
  have hlm : ln ≤ 9223372036854775807 := by omega
  have hnp : ¬ (pre ++ [x]) <+: L := fun h => by obtain ⟨h1, -⟩ := (pre_snoc hpre x).1 h; omega
  have HNP := Lib.hid hnp
  rw [← hln] at hge hca
  rw [← hpn] at hge hck
  clear hnp
  clear hta hk hpre hbx hXi hXr hX hq hln hpn hlen hz hrow hbxl
  have hge0 : decide (ln ≤ pn) = true := by simpa using hge
  clear hge
  have hge := hge0
  clear hge0
  refine wpIn_block ?_
  refine wpIn_seq ?_
  refine wpIn_seq ?_
  refine wpIn_region_stillK (by kernel_rfl) (by kernel_rfl) (by rintro ⟨_, _, h⟩; exact h) (by intro o ho c hc; simp only [List.mem_cons, List.not_mem_nil, or_false] at ho; rcases ho with rfl | rfl | rfl | rfl | rfl | rfl | rfl | rfl | rfl | rfl | rfl | rfl <;> cases hc) (fun Qx hQx => ?_)
  refine still_one (.int .i64 pn) (by rw [← hf0]; kernel_rfl) (ld_int _ rfl ⟨kb, 0, none⟩ (by rw [← hf0]; kernel_rfl) _ hck) (fun f1 h1 => ?_)
  refine still_one (.slice Aa ln cap) (by rw [h1, ← hf0]; kernel_rfl) (ld_sl _ rfl ⟨a0, 0, none⟩ (by rw [h1, ← hf0]; kernel_rfl) _ hca) (fun f2 h2 => ?_)
  refine still_one (.int .i64 ln) (by rw [h2, h1, ← hf0]; kernel_rfl) (len_at _ rfl Aa ln cap (by rw [h2, h1, ← hf0]; kernel_rfl) rfl hlm) (fun f3 h3 => ?_)
  refine still_one (.bool true) (by rw [h3, h2, h1, ← hf0]; kernel_rfl) ((ge_at _ _ rfl pn ln (by rw [h3, h2, h1, ← hf0]; kernel_rfl) (by rw [h3, h2, h1, ← hf0]; kernel_rfl)).trans (by rw [hge])) (fun f4 h4 => ?_)
  refine still_one (.bool true) (by rw [h4, h3, h2, h1, ← hf0]; kernel_rfl) (by rw [h4, h3, h2, h1, ← hf0]; kernel_rfl) (fun f5 h5 => ?_)
  refine still_off (by rw [h5, h4, h3, h2, h1, ← hf0]; kernel_rfl) (fun f6 h6 => ?_)
  refine still_off (by rw [h6, h5, h4, h3, h2, h1, ← hf0]; kernel_rfl) (fun f7 h7 => ?_)
  refine still_off (by rw [h7, h6, h5, h4, h3, h2, h1, ← hf0]; kernel_rfl) (fun f8 h8 => ?_)
  refine still_off (by rw [h8, h7, h6, h5, h4, h3, h2, h1, ← hf0]; kernel_rfl) (fun f9 h9 => ?_)
  refine still_off (by rw [h9, h8, h7, h6, h5, h4, h3, h2, h1, ← hf0]; kernel_rfl) (fun f10 h10 => ?_)
  refine still_off (by rw [h10, h9, h8, h7, h6, h5, h4, h3, h2, h1, ← hf0]; kernel_rfl) (fun f11 h11 => ?_)
  refine still_one (.bool true) (by rw [h11, h10, h9, h8, h7, h6, h5, h4, h3, h2, h1, ← hf0]; kernel_rfl) (by rw [h11, h10, h9, h8, h7, h6, h5, h4, h3, h2, h1, ← hf0]; kernel_rfl) (fun f12 h12 => ?_)
  refine wpStill_nil (hQx _ ?_)
  have hf12 : f12 = ⟨#[u0, u1, .pointer (some ⟨b0 + 1, 0, none⟩), u3, u4, .pointer (some ⟨a0, 0, none⟩), u6, u7, u8, u9, .pointer (some ⟨kb, 0, none⟩), .pointer (some ⟨q, 0, none⟩), u12, u13, u14, u15, u16, u17, u18, u19, u20, u21, u22, u23, u24, u25, u26, u27, u28, u29, u30, u31, u32, u33, u34, u35, u36, u37, u38, u39, u40, u41, u42, u43, u44, u45, u46, u47, u48, u49, u50, u51, u52, u53, u54, u55, u56, u57, u58, u59, u60, u61, u62, u63, u64, u65, u66, u67, u68, u69, u70, u71, u72, u73, u74, u75, u76, u77, u78, u79, u80, u81, u82, u83, u84, u85, u86, u87, u88, u89, u90, u91, u92, .int .i64 pn, .slice Aa ln cap, .int .i64 ln, .bool true, .bool true, undef, undef, undef, undef, undef, undef, .bool true, u105, u106, u107, u108, u109, u110], []⟩ := by rw [h12, h11, h10, h9, h8, h7, h6, h5, h4, h3, h2, h1, ← hf0]; kernel_rfl
  dsimp only at hf12
  rw [hf12]
  clear hf12 h12 h11 h10 h9 h8 h7 h6 h5 h4 h3 h2 h1 hf0 hQx f12 f11 f10 f9 f8 f7 f6 f5 f4 f3 f2 f1 f0 Qx
  obtain ⟨Wd, hWd⟩ : ∃ Wd, Wd = W.drew := ⟨_, rfl⟩
  change Code.wpIn _ _ _ _ _ _ (World.drew W)
  rw [← hWd]
  obtain ⟨u, hu⟩ := HTA.out.res
  have hu1 : Boxed Wd (b0 + 1) 4 u := by rw [hWd]; exact hu
  have huc := hu1.cell
  have huf := hu1.frozen
  have HWD := Lib.hid hWd
  clear hu hu1 hWd hck hca
  gi_wp2
  refine ⟨?_, HNP.out⟩
  have e : KeepsFrom B W Wd := by rw [HWD.out]; exact ⟨Nat.le_refl _, fun _ _ _ h _ => h⟩
  exact e.trans (KeepsFrom.of_grownBy (grownBy_setCell' _ _ _) (fun j e => by cases e; omega))

set_option maxRecDepth 100000 in
set_option maxHeartbeats 2000000 in
theorem adds2_other (l n : Nat) (u0 u1 u3 u4 u6 u7 u8 u9 u12 u13 u14 u15 u16 u17 u18 u19 u20 u21 u22 u23 u24 u25 u26 u27 u28 u29 u30 u31 u32 u33 u34 u35 u36 u37 u38 u39 u40 u41 u42 u43 u44 u45 u46 u47 u48 u49 u50 u51 u52 u53 u54 u55 u56 u57 u58 u59 u60 u61 u62 u63 u64 u65 u66 u67 u68 u69 u70 u71 u72 u73 u74 u75 u76 u77 u78 u79 u80 u81 u82 u83 u84 u85 u86 u87 u88 u89 u90 u91 u92 u93 u94 u95 u96 u97 u98 u99 u100 u101 u102 u103 u104 u105 u106 u107 u108 u109 u110 : Value) (q B0 b0 a0 r kb B : Nat) (w W : World) (N : Array Value) (L pre : List (Cn × Cn)) (x : Cn × Cn) (ds : List Deferred) (hb : b0 + 1 < a0) (_hB0 : B0 ≤ b0) (hr0 : a0 < r) (hkb : r < kb) (hta : TA B0 b0 a0 w N L ds W) (hk : Boxed W kb 3 (.int .i64 pre.length)) (hpre : pre <+: L) (hq : W.heap[q]? = some (.cells (arC x).toArray 31)) (hz : L.length ≤ 1000) (hkB : kb < B) (hlt : pre.length < L.length) (hne : ¬ x = L[pre.length]) :
    (rfBody (rf1 (fromRegion 22 addsC))).wpIn (Fence.wide.inRound l) n Tryd.prog (ownPostG B (KeepTs (r + 1) [85, 77]) (fun (pre : List (Cn × Cn)) W => TA B0 b0 a0 w N L ds W ∧ Boxed W kb 3 (.int .i64 pre.length) ∧ pre <+: L) (fun _ pre _ => ¬ pre <+: L) (pre ++ [x]) W) ⟨#[u0, u1, .pointer (some ⟨b0 + 1, 0, none⟩), u3, u4, .pointer (some ⟨a0, 0, none⟩), u6, u7, u8, u9, .pointer (some ⟨kb, 0, none⟩), .pointer (some ⟨q, 0, none⟩), u12, u13, u14, u15, u16, u17, u18, u19, u20, u21, u22, u23, u24, u25, u26, u27, u28, u29, u30, u31, u32, u33, u34, u35, u36, u37, u38, u39, u40, u41, u42, u43, u44, u45, u46, u47, u48, u49, u50, u51, u52, u53, u54, u55, u56, u57, u58, u59, u60, u61, u62, u63, u64, u65, u66, u67, u68, u69, u70, u71, u72, u73, u74, u75, u76, u77, u78, u79, u80, u81, u82, u83, u84, u85, u86, u87, u88, u89, u90, u91, u92, u93, u94, u95, u96, u97, u98, u99, u100, u101, u102, u103, u104, u105, u106, u107, u108, u109, u110], []⟩ W := by
  dsimp only
  generalize hf0 : Act.mk _ _ = f0
  conv => arg 4; whnf
  have hlen := hpre.length_le
  obtain ⟨Aa, cap, hbx, hrow⟩ := TA.slice hta
  have hbxl := hta.lt
  have HROW := Lib.hid hrow
  have HTA := Lib.hid hta
  have HKB := Lib.hid hk
  have HPR := Lib.hid hpre
  have hck := hk.cell
  have hca := hbx.cell
  obtain ⟨X, hX⟩ : ∃ X, X = arC x := ⟨_, rfl⟩
  have hXi : (Tryd.prog.info? 31).map (·.size) = some X.length := by rw [hX]; exact infA
  have hXr : W.rangeAt q 0 X := by rw [hX]; exact area_range hq
  have HXI := Lib.hid hXi
  have HXR := Lib.hid hXr
  have HX := Lib.hid hX
  obtain ⟨ln, hln⟩ : ∃ ln, ln = L.length := ⟨_, rfl⟩
  obtain ⟨pn, hpn⟩ : ∃ pn, pn = pre.length := ⟨_, rfl⟩
  have hlm : ln ≤ 9223372036854775807 := by omega
  have hnp : ¬ (pre ++ [x]) <+: L := fun h => by obtain ⟨h1, h2⟩ := (pre_snoc hpre x).1 h; exact hne h2.symm
  have HNP := Lib.hid hnp
  have HPN := Lib.hid hpn
  rw [← hln] at hca
  rw [← hpn] at hck
  have hlt0 := hlt
  rw [← hpn, ← hln] at hlt
  have hpl : pn < L.length := by omega
  obtain ⟨g, hAA, -, hcap, hyr⟩ := hrow pn hpl
  obtain ⟨y, hy⟩ : ∃ y, y = L[pn] := ⟨_, rfl⟩
  rw [← hy] at hyr
  obtain ⟨Y, hY⟩ : ∃ Y, Y = arC y := ⟨_, rfl⟩
  have hYi : (Tryd.prog.info? 31).map (·.size) = some Y.length := by rw [hY]; exact infA
  rw [← hY] at hyr
  have HYI := Lib.hid hYi
  have HYR := Lib.hid hyr
  have HY := Lib.hid hY
  have HAA := Lib.hid hAA
  have hge0 : decide (ln ≤ pn) = false := by simpa using hlt
  have hb' : (!decide (x = y)) = true := by
    have e : y = L[pre.length] := by rw [hy]; congr 1
    rw [e]; simpa using hne
  obtain ⟨nb, hnb⟩ : ∃ nb, nb = (!decide (x = y)) := ⟨_, rfl⟩
  have HNB := Lib.hid hnb.symm
  rw [← hnb] at hb'
  have hge := hge0
  clear hge0 hnp hlt0 hne hpl hAA hyr hY hYi hy
  subst hb'
  clear hnb
  clear hta hk hpre hbx hXi hXr hX hq hln hpn hlen hz hrow hbxl
  refine wpIn_block ?_
  refine wpIn_seq ?_
  refine wpIn_seq ?_
  refine wpIn_region_stillK (by kernel_rfl) (by kernel_rfl) (by rintro ⟨_, _, h⟩; exact h) (by intro o ho c hc; simp only [List.mem_cons, List.not_mem_nil, or_false] at ho; rcases ho with rfl | rfl | rfl | rfl | rfl | rfl | rfl | rfl | rfl | rfl | rfl | rfl <;> cases hc) (fun Qx hQx => ?_)
  refine still_one (.int .i64 pn) (by rw [← hf0]; kernel_rfl) (ld_int _ rfl ⟨kb, 0, none⟩ (by rw [← hf0]; kernel_rfl) _ hck) (fun f1 h1 => ?_)
  refine still_one (.slice Aa ln cap) (by rw [h1, ← hf0]; kernel_rfl) (ld_sl _ rfl ⟨a0, 0, none⟩ (by rw [h1, ← hf0]; kernel_rfl) _ hca) (fun f2 h2 => ?_)
  refine still_one (.int .i64 ln) (by rw [h2, h1, ← hf0]; kernel_rfl) (len_at _ rfl Aa ln cap (by rw [h2, h1, ← hf0]; kernel_rfl) rfl hlm) (fun f3 h3 => ?_)
  refine still_one (.bool false) (by rw [h3, h2, h1, ← hf0]; kernel_rfl) ((ge_at _ _ rfl pn ln (by rw [h3, h2, h1, ← hf0]; kernel_rfl) (by rw [h3, h2, h1, ← hf0]; kernel_rfl)).trans (by rw [hge])) (fun f4 h4 => ?_)
  refine still_one (.bool false) (by rw [h4, h3, h2, h1, ← hf0]; kernel_rfl) (by rw [h4, h3, h2, h1, ← hf0]; kernel_rfl) (fun f5 h5 => ?_)
  refine still_one (.agg X.toArray) (by rw [h5, h4, h3, h2, h1, ← hf0]; kernel_rfl) (ld_row _ rfl q 0 (by rw [h5, h4, h3, h2, h1, ← hf0]; kernel_rfl) X HXR.out HXI.out) (fun f6 h6 => ?_)
  refine still_one (.slice Aa ln cap) (by rw [h6, h5, h4, h3, h2, h1, ← hf0]; kernel_rfl) (ld_sl _ rfl ⟨a0, 0, none⟩ (by rw [h6, h5, h4, h3, h2, h1, ← hf0]; kernel_rfl) _ hca) (fun f7 h7 => ?_)
  refine still_one (.int .i64 pn) (by rw [h7, h6, h5, h4, h3, h2, h1, ← hf0]; kernel_rfl) (ld_int _ rfl ⟨kb, 0, none⟩ (by rw [h7, h6, h5, h4, h3, h2, h1, ← hf0]; kernel_rfl) _ hck) (fun f8 h8 => ?_)
  refine still_one (.pointer (some ⟨g, pn * 12, none⟩)) (by rw [h8, h7, h6, h5, h4, h3, h2, h1, ← hf0]; kernel_rfl) (ix_at _ _ rfl g ln cap pn (by rw [h8, h7, h6, h5, h4, h3, h2, h1, ← hf0, HAA.out]; kernel_rfl) (by rw [h8, h7, h6, h5, h4, h3, h2, h1, ← hf0]; kernel_rfl) hlt) (fun f9 h9 => ?_)
  refine still_one (.agg Y.toArray) (by rw [h9, h8, h7, h6, h5, h4, h3, h2, h1, ← hf0]; kernel_rfl) (ld_row _ rfl g (pn * 12) (by rw [h9, h8, h7, h6, h5, h4, h3, h2, h1, ← hf0]; kernel_rfl) Y HYR.out HYI.out) (fun f10 h10 => ?_)
  refine still_one (.bool true) (by rw [h10, h9, h8, h7, h6, h5, h4, h3, h2, h1, ← hf0]; kernel_rfl) ((ne_at _ _ rfl x y (by rw [h10, h9, h8, h7, h6, h5, h4, h3, h2, h1, ← hf0, HX.out]; kernel_rfl) (by rw [h10, h9, h8, h7, h6, h5, h4, h3, h2, h1, ← hf0, HY.out]; kernel_rfl)).trans (by rw [HNB.out])) (fun f11 h11 => ?_)
  refine still_one (.bool true) (by rw [h11, h10, h9, h8, h7, h6, h5, h4, h3, h2, h1, ← hf0]; kernel_rfl) (by rw [h11, h10, h9, h8, h7, h6, h5, h4, h3, h2, h1, ← hf0]; kernel_rfl) (fun f12 h12 => ?_)
  refine wpStill_nil (hQx _ ?_)
  have hf12 : f12 = ⟨#[u0, u1, .pointer (some ⟨b0 + 1, 0, none⟩), u3, u4, .pointer (some ⟨a0, 0, none⟩), u6, u7, u8, u9, .pointer (some ⟨kb, 0, none⟩), .pointer (some ⟨q, 0, none⟩), u12, u13, u14, u15, u16, u17, u18, u19, u20, u21, u22, u23, u24, u25, u26, u27, u28, u29, u30, u31, u32, u33, u34, u35, u36, u37, u38, u39, u40, u41, u42, u43, u44, u45, u46, u47, u48, u49, u50, u51, u52, u53, u54, u55, u56, u57, u58, u59, u60, u61, u62, u63, u64, u65, u66, u67, u68, u69, u70, u71, u72, u73, u74, u75, u76, u77, u78, u79, u80, u81, u82, u83, u84, u85, u86, u87, u88, u89, u90, u91, u92, .int .i64 pn, .slice Aa ln cap, .int .i64 ln, .bool false, .bool false, .agg X.toArray, .slice Aa ln cap, .int .i64 pn, .pointer (some ⟨g, pn * 12, none⟩), .agg Y.toArray, .bool true, .bool true, u105, u106, u107, u108, u109, u110], []⟩ := by rw [h12, h11, h10, h9, h8, h7, h6, h5, h4, h3, h2, h1, ← hf0]; kernel_rfl
  dsimp only at hf12
  rw [hf12]
  clear hf12 h12 h11 h10 h9 h8 h7 h6 h5 h4 h3 h2 h1 hf0 hQx f12 f11 f10 f9 f8 f7 f6 f5 f4 f3 f2 f1 f0 Qx
  obtain ⟨Wd, hWd⟩ : ∃ Wd, Wd = W.drew := ⟨_, rfl⟩
  change Code.wpIn _ _ _ _ _ _ (World.drew W)
  rw [← hWd]
  obtain ⟨u, hu⟩ := HTA.out.res
  have hu1 : Boxed Wd (b0 + 1) 4 u := by rw [hWd]; exact hu
  have huc := hu1.cell
  have huf := hu1.frozen
  have HWD := Lib.hid hWd
  clear hu hu1 hWd hck hca
  gi_wp2
  refine ⟨?_, HNP.out⟩
  have e : KeepsFrom B W Wd := by rw [HWD.out]; exact ⟨Nat.le_refl _, fun _ _ _ h _ => h⟩
  exact e.trans (KeepsFrom.of_grownBy (grownBy_setCell' _ _ _) (fun j e => by cases e; omega))

set_option maxRecDepth 100000 in
set_option maxHeartbeats 2000000 in
theorem adds2_same (l n : Nat) (u0 u1 u3 u4 u6 u7 u8 u9 u12 u13 u14 u15 u16 u17 u18 u19 u20 u21 u22 u23 u24 u25 u26 u27 u28 u29 u30 u31 u32 u33 u34 u35 u36 u37 u38 u39 u40 u41 u42 u43 u44 u45 u46 u47 u48 u49 u50 u51 u52 u53 u54 u55 u56 u57 u58 u59 u60 u61 u62 u63 u64 u65 u66 u67 u68 u69 u70 u71 u72 u73 u74 u75 u76 u77 u78 u79 u80 u81 u82 u83 u84 u85 u86 u87 u88 u89 u90 u91 u92 u93 u94 u95 u96 u97 u98 u99 u100 u101 u102 u103 u104 u105 u106 u107 u108 u109 u110 : Value) (q B0 b0 a0 r kb B : Nat) (w W : World) (N : Array Value) (L pre : List (Cn × Cn)) (x : Cn × Cn) (ds : List Deferred) (hb : b0 + 1 < a0) (hB0 : B0 ≤ b0) (hr0 : a0 < r) (hkb : r < kb) (hta : TA B0 b0 a0 w N L ds W) (hk : Boxed W kb 3 (.int .i64 pre.length)) (hpre : pre <+: L) (hq : W.heap[q]? = some (.cells (arC x).toArray 31)) (hz : L.length ≤ 1000) (hkB : kb < B) (hlt : pre.length < L.length) (hne : x = L[pre.length]) :
    (rfBody (rf1 (fromRegion 22 addsC))).wpIn (Fence.wide.inRound l) n Tryd.prog (ownPostG B (KeepTs (r + 1) [85, 77]) (fun (pre : List (Cn × Cn)) W => TA B0 b0 a0 w N L ds W ∧ Boxed W kb 3 (.int .i64 pre.length) ∧ pre <+: L) (fun _ pre _ => ¬ pre <+: L) (pre ++ [x]) W) ⟨#[u0, u1, .pointer (some ⟨b0 + 1, 0, none⟩), u3, u4, .pointer (some ⟨a0, 0, none⟩), u6, u7, u8, u9, .pointer (some ⟨kb, 0, none⟩), .pointer (some ⟨q, 0, none⟩), u12, u13, u14, u15, u16, u17, u18, u19, u20, u21, u22, u23, u24, u25, u26, u27, u28, u29, u30, u31, u32, u33, u34, u35, u36, u37, u38, u39, u40, u41, u42, u43, u44, u45, u46, u47, u48, u49, u50, u51, u52, u53, u54, u55, u56, u57, u58, u59, u60, u61, u62, u63, u64, u65, u66, u67, u68, u69, u70, u71, u72, u73, u74, u75, u76, u77, u78, u79, u80, u81, u82, u83, u84, u85, u86, u87, u88, u89, u90, u91, u92, u93, u94, u95, u96, u97, u98, u99, u100, u101, u102, u103, u104, u105, u106, u107, u108, u109, u110], []⟩ W := by
  dsimp only
  generalize hf0 : Act.mk _ _ = f0
  conv => arg 4; whnf
  have hlen := hpre.length_le
  obtain ⟨Aa, cap, hbx, hrow⟩ := TA.slice hta
  have hbxl := hta.lt
  have HROW := Lib.hid hrow
  have HTA := Lib.hid hta
  have HKB := Lib.hid hk
  have HPR := Lib.hid hpre
  have hck := hk.cell
  have hca := hbx.cell
  obtain ⟨X, hX⟩ : ∃ X, X = arC x := ⟨_, rfl⟩
  have hXi : (Tryd.prog.info? 31).map (·.size) = some X.length := by rw [hX]; exact infA
  have hXr : W.rangeAt q 0 X := by rw [hX]; exact area_range hq
  have HXI := Lib.hid hXi
  have HXR := Lib.hid hXr
  have HX := Lib.hid hX
  obtain ⟨ln, hln⟩ : ∃ ln, ln = L.length := ⟨_, rfl⟩
  obtain ⟨pn, hpn⟩ : ∃ pn, pn = pre.length := ⟨_, rfl⟩
  have hlm : ln ≤ 9223372036854775807 := by omega
  have hnp : (pre ++ [x]) <+: L := (pre_snoc hpre x).2 ⟨hlt, hne.symm⟩
  have HNP := Lib.hid hnp
  have HPN := Lib.hid hpn
  rw [← hln] at hca
  rw [← hpn] at hck
  have hlt0 := hlt
  rw [← hpn, ← hln] at hlt
  have hpl : pn < L.length := by omega
  obtain ⟨g, hAA, -, hcap, hyr⟩ := hrow pn hpl
  obtain ⟨y, hy⟩ : ∃ y, y = L[pn] := ⟨_, rfl⟩
  rw [← hy] at hyr
  obtain ⟨Y, hY⟩ : ∃ Y, Y = arC y := ⟨_, rfl⟩
  have hYi : (Tryd.prog.info? 31).map (·.size) = some Y.length := by rw [hY]; exact infA
  rw [← hY] at hyr
  have HYI := Lib.hid hYi
  have HYR := Lib.hid hyr
  have HY := Lib.hid hY
  have HAA := Lib.hid hAA
  have hge0 : decide (ln ≤ pn) = false := by simpa using hlt
  have hb' : (!decide (x = y)) = false := by
    have e : y = L[pre.length] := by rw [hy]; congr 1
    rw [e]; simpa using hne
  obtain ⟨nb, hnb⟩ : ∃ nb, nb = (!decide (x = y)) := ⟨_, rfl⟩
  have HNB := Lib.hid hnb.symm
  rw [← hnb] at hb'
  have hge := hge0
  clear hge0 hnp hlt0 hne hpl hAA hyr hY hYi hy
  subst hb'
  clear hnb
  clear hta hk hpre hbx hXi hXr hX hq hln hpn hlen hz hrow hbxl
  refine wpIn_block ?_
  refine wpIn_seq ?_
  refine wpIn_seq ?_
  refine wpIn_region_stillK (by kernel_rfl) (by kernel_rfl) (by rintro ⟨_, _, h⟩; exact h) (by intro o ho c hc; simp only [List.mem_cons, List.not_mem_nil, or_false] at ho; rcases ho with rfl | rfl | rfl | rfl | rfl | rfl | rfl | rfl | rfl | rfl | rfl | rfl <;> cases hc) (fun Qx hQx => ?_)
  refine still_one (.int .i64 pn) (by rw [← hf0]; kernel_rfl) (ld_int _ rfl ⟨kb, 0, none⟩ (by rw [← hf0]; kernel_rfl) _ hck) (fun f1 h1 => ?_)
  refine still_one (.slice Aa ln cap) (by rw [h1, ← hf0]; kernel_rfl) (ld_sl _ rfl ⟨a0, 0, none⟩ (by rw [h1, ← hf0]; kernel_rfl) _ hca) (fun f2 h2 => ?_)
  refine still_one (.int .i64 ln) (by rw [h2, h1, ← hf0]; kernel_rfl) (len_at _ rfl Aa ln cap (by rw [h2, h1, ← hf0]; kernel_rfl) rfl hlm) (fun f3 h3 => ?_)
  refine still_one (.bool false) (by rw [h3, h2, h1, ← hf0]; kernel_rfl) ((ge_at _ _ rfl pn ln (by rw [h3, h2, h1, ← hf0]; kernel_rfl) (by rw [h3, h2, h1, ← hf0]; kernel_rfl)).trans (by rw [hge])) (fun f4 h4 => ?_)
  refine still_one (.bool false) (by rw [h4, h3, h2, h1, ← hf0]; kernel_rfl) (by rw [h4, h3, h2, h1, ← hf0]; kernel_rfl) (fun f5 h5 => ?_)
  refine still_one (.agg X.toArray) (by rw [h5, h4, h3, h2, h1, ← hf0]; kernel_rfl) (ld_row _ rfl q 0 (by rw [h5, h4, h3, h2, h1, ← hf0]; kernel_rfl) X HXR.out HXI.out) (fun f6 h6 => ?_)
  refine still_one (.slice Aa ln cap) (by rw [h6, h5, h4, h3, h2, h1, ← hf0]; kernel_rfl) (ld_sl _ rfl ⟨a0, 0, none⟩ (by rw [h6, h5, h4, h3, h2, h1, ← hf0]; kernel_rfl) _ hca) (fun f7 h7 => ?_)
  refine still_one (.int .i64 pn) (by rw [h7, h6, h5, h4, h3, h2, h1, ← hf0]; kernel_rfl) (ld_int _ rfl ⟨kb, 0, none⟩ (by rw [h7, h6, h5, h4, h3, h2, h1, ← hf0]; kernel_rfl) _ hck) (fun f8 h8 => ?_)
  refine still_one (.pointer (some ⟨g, pn * 12, none⟩)) (by rw [h8, h7, h6, h5, h4, h3, h2, h1, ← hf0]; kernel_rfl) (ix_at _ _ rfl g ln cap pn (by rw [h8, h7, h6, h5, h4, h3, h2, h1, ← hf0, HAA.out]; kernel_rfl) (by rw [h8, h7, h6, h5, h4, h3, h2, h1, ← hf0]; kernel_rfl) hlt) (fun f9 h9 => ?_)
  refine still_one (.agg Y.toArray) (by rw [h9, h8, h7, h6, h5, h4, h3, h2, h1, ← hf0]; kernel_rfl) (ld_row _ rfl g (pn * 12) (by rw [h9, h8, h7, h6, h5, h4, h3, h2, h1, ← hf0]; kernel_rfl) Y HYR.out HYI.out) (fun f10 h10 => ?_)
  refine still_one (.bool false) (by rw [h10, h9, h8, h7, h6, h5, h4, h3, h2, h1, ← hf0]; kernel_rfl) ((ne_at _ _ rfl x y (by rw [h10, h9, h8, h7, h6, h5, h4, h3, h2, h1, ← hf0, HX.out]; kernel_rfl) (by rw [h10, h9, h8, h7, h6, h5, h4, h3, h2, h1, ← hf0, HY.out]; kernel_rfl)).trans (by rw [HNB.out])) (fun f11 h11 => ?_)
  refine still_one (.bool false) (by rw [h11, h10, h9, h8, h7, h6, h5, h4, h3, h2, h1, ← hf0]; kernel_rfl) (by rw [h11, h10, h9, h8, h7, h6, h5, h4, h3, h2, h1, ← hf0]; kernel_rfl) (fun f12 h12 => ?_)
  refine wpStill_nil (hQx _ ?_)
  have hf12 : f12 = ⟨#[u0, u1, .pointer (some ⟨b0 + 1, 0, none⟩), u3, u4, .pointer (some ⟨a0, 0, none⟩), u6, u7, u8, u9, .pointer (some ⟨kb, 0, none⟩), .pointer (some ⟨q, 0, none⟩), u12, u13, u14, u15, u16, u17, u18, u19, u20, u21, u22, u23, u24, u25, u26, u27, u28, u29, u30, u31, u32, u33, u34, u35, u36, u37, u38, u39, u40, u41, u42, u43, u44, u45, u46, u47, u48, u49, u50, u51, u52, u53, u54, u55, u56, u57, u58, u59, u60, u61, u62, u63, u64, u65, u66, u67, u68, u69, u70, u71, u72, u73, u74, u75, u76, u77, u78, u79, u80, u81, u82, u83, u84, u85, u86, u87, u88, u89, u90, u91, u92, .int .i64 pn, .slice Aa ln cap, .int .i64 ln, .bool false, .bool false, .agg X.toArray, .slice Aa ln cap, .int .i64 pn, .pointer (some ⟨g, pn * 12, none⟩), .agg Y.toArray, .bool false, .bool false, u105, u106, u107, u108, u109, u110], []⟩ := by rw [h12, h11, h10, h9, h8, h7, h6, h5, h4, h3, h2, h1, ← hf0]; kernel_rfl
  dsimp only at hf12
  rw [hf12]
  clear hf12 h12 h11 h10 h9 h8 h7 h6 h5 h4 h3 h2 h1 hf0 hQx f12 f11 f10 f9 f8 f7 f6 f5 f4 f3 f2 f1 f0 Qx
  obtain ⟨Wd, hWd⟩ : ∃ Wd, Wd = W.drew := ⟨_, rfl⟩
  change Code.wpIn _ _ _ _ _ _ (World.drew W)
  rw [← hWd]
  have hk1 : Boxed Wd kb 3 (.int .i64 pn) := by rw [hWd, HPN.out]; exact HKB.out
  have hkc := hk1.cell
  have hkf := hk1.frozen
  have hov : (pn : Int) + 1 ≤ 9223372036854775807 := by omega
  have HWD := Lib.hid hWd
  have HK1 := Lib.hid hk1
  clear hWd hck hca hk1
  gi_wp2
  have e : KeepsFrom B W Wd := by rw [HWD.out]; exact ⟨Nat.le_refl _, fun _ _ _ h _ => h⟩
  have e1 : KeepTs (r + 1) [85, 77] W Wd := by rw [HWD.out]; exact ⟨(Below.refl _ W).drew, fun _ _ _ _ => rfl⟩
  have hta1 : TA B0 b0 a0 w N L ds Wd := by rw [HWD.out]; exact HTA.out.drew
  refine ⟨e.trans (KeepsFrom.of_grownBy (grownBy_setCell' _ _ _) (fun j e => by cases e; omega)), e1.trans (KeepTs.setCell (by simp only; omega) (fun T hT => ?_) _), hta1.put hb hB0 (by omega) HK1.out _, ?_, HNP.out⟩
  · simp only [List.mem_cons, List.not_mem_nil, or_false] at hT
    rcases hT with rfl | rfl <;> exact boxed_notOf HK1.out (by decide)
  · have e2 : (((pre ++ [x]).length : Nat) : Int) = (pn : Int) + 1 := by rw [List.length_append, List.length_singleton, HPN.out]; rfl
    rw [e2]
    exact HK1.out.set _

end Go.Proofs.YtggpffipijoddaaDoor
namespace Go.Proofs.YtggpffipijoddaaDoor
open Go Go.RowKit Go.Shelf
attribute [local go_sem] Oper.semAt_some

set_option maxRecDepth 100000 in
set_option maxHeartbeats 2000000 in
theorem adds_range2 (u0 u1 u3 u4 u6 u7 u8 u9 u11 u12 u13 u14 u15 u16 u17 u18 u19 u20 u21 u22 u23 u24 u25 u26 u27 u28 u29 u30 u31 u32 u33 u34 u35 u36 u37 u38 u39 u40 u41 u42 u43 u44 u45 u46 u47 u48 u49 u50 u51 u52 u53 u54 u55 u56 u57 u58 u59 u60 u61 u62 u63 u64 u65 u66 u67 u68 u69 u70 u71 u72 u73 u74 u75 u76 u77 u78 u79 u80 u81 u82 u83 u84 u85 u86 u87 u88 u89 u90 u92 u93 u94 u95 u96 u97 u98 u99 u100 u101 u102 u103 u104 u105 u106 u107 u108 u109 u110 : Value) (B0 b0 a0 r kb c : Nat) (w W : World) (N : Array Value) (t : Tr) (A : Option Addr) (ds : List Deferred) (hb : b0 + 1 < a0) (hB0 : B0 ≤ b0) (hr0 : a0 < r) (hkb : r < kb) (hta : TA B0 b0 a0 w N (areasT t) ds W) (hk : Boxed W kb 3 (.int .i64 0)) (hr : W.heap[r]? = some (.cells (nodeA t.d A t.l.length c) 34)) (hd : t.d.ok) (hs : SlAt w B0 A c t.l)
    (hz : t.size ≤ 1000) (Q : Exit → Act → World → Prop) (hQ : ∀ D W', TA B0 b0 a0 w N (areasT t) (markOf D :: ds) W' → Boxed W' kb 3 (.int .i64 (areasT t).length) → Q .normal ⟨#[u0, u1, .pointer (some ⟨b0 + 1, 0, none⟩), u3, u4, .pointer (some ⟨a0, 0, none⟩), u6, u7, u8, u9, .pointer (some ⟨kb, 0, none⟩), u11, u12, u13, u14, u15, u16, u17, u18, u19, u20, u21, u22, u23, u24, u25, u26, u27, u28, u29, u30, u31, u32, u33, u34, u35, u36, u37, u38, u39, u40, u41, u42, u43, u44, u45, u46, u47, u48, u49, u50, u51, u52, u53, u54, u55, u56, u57, u58, u59, u60, u61, u62, u63, u64, u65, u66, u67, u68, u69, u70, u71, u72, u73, u74, u75, u76, u77, u78, u79, u80, u81, u82, u83, u84, u85, u86, u87, u88, u89, u90, .func (.func 34) #[] #[.pointer (some ⟨r, 0, none⟩)], u92, u93, u94, u95, u96, u97, u98, u99, u100, u101, u102, u103, u104, u105, u106, u107, u108, u109, u110], (markOf D :: ds)⟩ W') :
    (rf1 (fromRegion 22 addsC)).wp Tryd.prog Q ⟨#[u0, u1, .pointer (some ⟨b0 + 1, 0, none⟩), u3, u4, .pointer (some ⟨a0, 0, none⟩), u6, u7, u8, u9, .pointer (some ⟨kb, 0, none⟩), u11, u12, u13, u14, u15, u16, u17, u18, u19, u20, u21, u22, u23, u24, u25, u26, u27, u28, u29, u30, u31, u32, u33, u34, u35, u36, u37, u38, u39, u40, u41, u42, u43, u44, u45, u46, u47, u48, u49, u50, u51, u52, u53, u54, u55, u56, u57, u58, u59, u60, u61, u62, u63, u64, u65, u66, u67, u68, u69, u70, u71, u72, u73, u74, u75, u76, u77, u78, u79, u80, u81, u82, u83, u84, u85, u86, u87, u88, u89, u90, .func (.func 34) #[] #[.pointer (some ⟨r, 0, none⟩)], u92, u93, u94, u95, u96, u97, u98, u99, u100, u101, u102, u103, u104, u105, u106, u107, u108, u109, u110], ds⟩ W := by
  dsimp only
  dsimp only at hQ
  refine (wpIn_wide (n := 5)).1 ?_
  conv => arg 4; whnf
  have hrl : r < W.heap.size := (Array.getElem?_eq_some_iff.1 hr).1
  have hkl : kb < W.heap.size := (Array.getElem?_eq_some_iff.1 (show W.heap[kb]? = _ from hk)).1
  have hBW : B0 ≤ W.heap.size := by have := hta.lt; omega
  have hLz : (areasT t).length ≤ 1000 := by have := areasT_le t; omega
  obtain ⟨at_, rfl, hab, hao, hat⟩ := NodeAt.addr t r 0 (boxed_node hd hs (by omega) hta.below hr)
  have hseq := areas1_seq W (r + 1) at_ hat (by omega) (by omega)
  rw [hab, hao, areasP_items] at hseq
  obtain ⟨kz, hkz⟩ : ∃ kz, kz = at_.tr.size := ⟨_, rfl⟩
  obtain ⟨L, hL⟩ : ∃ L, L = areasT at_.tr := ⟨_, rfl⟩
  rw [← hkz, ← hL] at hseq
  rw [← hL] at hQ hLz hta
  have HTA := Lib.hid hta
  have HQ := Lib.hid hQ
  clear hta hQ hkz hL hat hd hs hr hz hab hao
  have hml : ∀ d ∈ ds, ∀ D, d = markOf D → D < W.heap.size := HTA.out.marks.lt
  refine range_N (n := 5) (n₀ := r + 1) (by omega) (gf := 34) (lb := #[.pointer (some ⟨r, 0, none⟩)]) rfl (enters_of Tryd.func34 (by kernel_rfl) rfl)
    hseq (by omega) (Below.refl _ _) (fun _ => rfl)
    (fun (pre : List (Cn × Cn)) W' => TA B0 b0 a0 w N L ds W' ∧ Boxed W' kb 3 (.int .i64 pre.length) ∧ pre <+: L)
    (fun _ pre _ => ¬ pre <+: L)
    (fun s A1 B1 row h hg hr1 => ⟨TA.abides (B := W.heap.size) (w := w) (N := N) (acc := []) HTA.out.lt hb hB0 hml L A1 B1 row h.1 hg hr1, kept_low hg hr1 h.2.1 hkl, h.2.2⟩)
    (fun _ _ _ _ _ h _ _ => h)
    ⟨HTA.out, hk, List.nil_prefix⟩
    (fun x a' W' => ∃ q, a' = ⟨#[u0, u1, .pointer (some ⟨b0 + 1, 0, none⟩), u3, u4, .pointer (some ⟨a0, 0, none⟩), u6, u7, u8, u9, .pointer (some ⟨kb, 0, none⟩), .pointer (some ⟨q, 0, none⟩), u12, u13, u14, u15, u16, u17, u18, u19, u20, u21, u22, u23, u24, u25, u26, u27, u28, u29, u30, u31, u32, u33, u34, u35, u36, u37, u38, u39, u40, u41, u42, u43, u44, u45, u46, u47, u48, u49, u50, u51, u52, u53, u54, u55, u56, u57, u58, u59, u60, u61, u62, u63, u64, u65, u66, u67, u68, u69, u70, u71, u72, u73, u74, u75, u76, u77, u78, u79, u80, u81, u82, u83, u84, u85, u86, u87, u88, u89, u90, .func (.func 34) #[] #[.pointer (some ⟨r, 0, none⟩)], arV x, u93, u94, u95, u96, u97, u98, u99, u100, u101, u102, u103, u104, u105, u106, u107, u108, u109, u110], []⟩ ∧ W'.heap[q]? = some (.cells (arC x).toArray 31))
    (fun x a' s A1 B1 row h hg hr1 => by
      obtain ⟨q, h1, h2⟩ := h
      refine ⟨q, h1, (hg.block q (Array.getElem?_eq_some_iff.1 h2).1 (fun e => ?_)).trans h2⟩
      obtain ⟨-, o, ho, hn⟩ := hr1 q e.symm
      rw [h2] at ho; cases ho; cases hn)
    ?assign ?body ?done ?stop
  case assign =>
    intro l pre x W1 K hI hK
    dsimp only [encA]
    simp only [List.zip_toArray, List.zip_cons_cons, List.zip_nil_right, List.foldl_toArray, List.foldl_cons, List.foldl_nil, List.setIfInBounds_toArray, List.set_cons_succ, List.set_cons_zero]
    have HK := Lib.hid hK
    clear hK
    refine wpIn_region_lit (wpListIn_of (by rintro ⟨_, _, h⟩; exact h) _ _ _ (by intro o ho c hc; simp only [List.mem_cons, List.not_mem_nil, or_false] at ho; rcases ho with rfl | rfl <;> cases hc) ?_)
    refine wpList_areaVar rfl rfl W1.heap.size rfl ?_
    refine wpList_storeFresh (w := W1) rfl 31 _ _ rfl W1.heap.size rfl (arC x).toArray rfl rfl infA rfl (by rw [Array.all_eq_true']; intro u hu; exact arC_one x u (by simpa using hu)) ?_
    have hk1 : kb < W1.heap.size := (Array.getElem?_eq_some_iff.1 (show W1.heap[kb]? = _ from hI.2.1)).1
    refine HK.out _ _ ⟨by rw [World.size_alloc]; omega, fun k o _ h _ => (heapOld _ _ _ (Array.getElem?_eq_some_iff.1 h).1).trans h⟩ (KeepTs.alloc _ (by omega)) ⟨hI.1.later hb hB0 ((Below.refl _ _).alloc (Nat.le_refl _) _), (heapOld _ _ _ hk1).trans hI.2.1, hI.2.2⟩ ⟨W1.heap.size, rfl, heap_alloc_new _ _⟩
  case body =>
    rintro l pre x a' W1 hl - ⟨hta, hkw, hpre⟩ ⟨q, rfl, hq⟩ hlen
    by_cases hlt : pre.length < L.length
    · by_cases hx : x = L[pre.length]
      · exact adds2_same l _ u0 u1 u3 u4 u6 u7 u8 u9 u12 u13 u14 u15 u16 u17 u18 u19 u20 u21 u22 u23 u24 u25 u26 u27 u28 u29 u30 u31 u32 u33 u34 u35 u36 u37 u38 u39 u40 u41 u42 u43 u44 u45 u46 u47 u48 u49 u50 u51 u52 u53 u54 u55 u56 u57 u58 u59 u60 u61 u62 u63 u64 u65 u66 u67 u68 u69 u70 u71 u72 u73 u74 u75 u76 u77 u78 u79 u80 u81 u82 u83 u84 u85 u86 u87 u88 u89 u90 (.func (.func 34) #[] #[.pointer (some ⟨r, 0, none⟩)]) (arV x) u93 u94 u95 u96 u97 u98 u99 u100 u101 u102 u103 u104 u105 u106 u107 u108 u109 u110 q B0 b0 a0 r kb _ w W1 N L pre x ds hb hB0 hr0 hkb hta hkw hpre hq hLz hkl hlt hx
      · exact adds2_other l _ u0 u1 u3 u4 u6 u7 u8 u9 u12 u13 u14 u15 u16 u17 u18 u19 u20 u21 u22 u23 u24 u25 u26 u27 u28 u29 u30 u31 u32 u33 u34 u35 u36 u37 u38 u39 u40 u41 u42 u43 u44 u45 u46 u47 u48 u49 u50 u51 u52 u53 u54 u55 u56 u57 u58 u59 u60 u61 u62 u63 u64 u65 u66 u67 u68 u69 u70 u71 u72 u73 u74 u75 u76 u77 u78 u79 u80 u81 u82 u83 u84 u85 u86 u87 u88 u89 u90 (.func (.func 34) #[] #[.pointer (some ⟨r, 0, none⟩)]) (arV x) u93 u94 u95 u96 u97 u98 u99 u100 u101 u102 u103 u104 u105 u106 u107 u108 u109 u110 q B0 b0 a0 r kb _ w W1 N L pre x ds hb hB0 hr0 hkb hta hkw hpre hq hLz hkl hlt hx
    · exact adds2_over l _ u0 u1 u3 u4 u6 u7 u8 u9 u12 u13 u14 u15 u16 u17 u18 u19 u20 u21 u22 u23 u24 u25 u26 u27 u28 u29 u30 u31 u32 u33 u34 u35 u36 u37 u38 u39 u40 u41 u42 u43 u44 u45 u46 u47 u48 u49 u50 u51 u52 u53 u54 u55 u56 u57 u58 u59 u60 u61 u62 u63 u64 u65 u66 u67 u68 u69 u70 u71 u72 u73 u74 u75 u76 u77 u78 u79 u80 u81 u82 u83 u84 u85 u86 u87 u88 u89 u90 (.func (.func 34) #[] #[.pointer (some ⟨r, 0, none⟩)]) (arV x) u93 u94 u95 u96 u97 u98 u99 u100 u101 u102 u103 u104 u105 u106 u107 u108 u109 u110 q B0 b0 a0 r kb _ w W1 N L pre x ds hb hB0 hr0 hkb hta hkw hpre hq hLz hkl (by omega)
  case done =>
    rintro D xs W1 hD rfl ⟨hta, hkw, -⟩ hK
    refine HQ.out D W1 ?_ hkw
    obtain ⟨h1, h2, h3, h4, h5, h6⟩ := hta
    exact ⟨h1, h2, h3, h4, h5.cons hml hK (by have := HTA.out.lt; omega) hD, h6⟩
  case stop => exact fun D c pre W1 hD hS hI _ => (hI hS).elim

set_option maxRecDepth 100000 in
set_option maxHeartbeats 4000000 in
theorem adds_tail (u0 u6 u7 u8 u9 u10 u11 u12 u13 u14 u15 u16 u17 u18 u19 u20 u21 u22 u23 u24 u25 u26 u27 u28 u29 u30 u31 u32 u33 u34 u35 u36 u37 u38 u39 u40 u41 u42 u43 u44 u45 u46 u47 u48 u49 u50 u51 u52 u53 u54 u55 u56 u57 u58 u59 u60 u61 u62 u63 u64 u65 u66 u67 u68 u69 u70 u71 u72 u73 u74 u75 u76 u77 u78 u79 u80 u81 u82 u83 u84 u85 u86 u87 u88 u89 u90 u91 u92 u93 u94 u95 u96 u97 u98 u99 u100 u101 u102 u103 u104 u105 u106 u107 u108 u109 u110 : Value) (B0 b0 a0 c al : Nat) (w W : World) (N : Array Value) (t : Tr) (A : Option Addr) (ds : List Deferred) (hb : b0 + 1 < a0) (hB0 : B0 ≤ b0) (hal : al = t.l.length) (hN : N = nodeA t.d A al c) (hd : t.d.ok) (hs : SlAt w B0 A c t.l) (hz : t.size ≤ 1000) (hta : TA B0 b0 a0 w N (areasT t) ds W) (Q : Exit → Act → World → Prop)
    (hQ : ∀ (u0 u1 u3 u4 u5 u6 u7 u8 u9 u10 u11 u12 u13 u14 u15 u16 u17 u18 u19 u20 u21 u22 u23 u24 u25 u26 u27 u28 u29 u30 u31 u32 u33 u34 u35 u36 u37 u38 u39 u40 u41 u42 u43 u44 u45 u46 u47 u48 u49 u50 u51 u52 u53 u54 u55 u56 u57 u58 u59 u60 u61 u62 u63 u64 u65 u66 u67 u68 u69 u70 u71 u72 u73 u74 u75 u76 u77 u78 u79 u80 u81 u82 u83 u84 u85 u86 u87 u88 u89 u90 u91 u92 u93 u94 u95 u96 u97 u98 u99 u100 u101 u102 u103 u104 u105 u106 u107 u108 u109 u110 : Value) (ds' : List Deferred) (W' : World), Below B0 w W' → Boxed W' (b0 + 1) 4 (.bool true) → Marks (a0 + 1) ds' W' → Q .ret ⟨#[u0, u1, .pointer (some ⟨b0 + 1, 0, none⟩), u3, u4, u5, u6, u7, u8, u9, u10, u11, u12, u13, u14, u15, u16, u17, u18, u19, u20, u21, u22, u23, u24, u25, u26, u27, u28, u29, u30, u31, u32, u33, u34, u35, u36, u37, u38, u39, u40, u41, u42, u43, u44, u45, u46, u47, u48, u49, u50, u51, u52, u53, u54, u55, u56, u57, u58, u59, u60, u61, u62, u63, u64, u65, u66, u67, u68, u69, u70, u71, u72, u73, u74, u75, u76, u77, u78, u79, u80, u81, u82, u83, u84, u85, u86, u87, u88, u89, u90, u91, u92, u93, u94, u95, u96, u97, u98, u99, u100, u101, u102, u103, u104, u105, u106, u107, u108, u109, u110], ds'⟩ W') :
    (fromRegion 22 addsC).wp Tryd.prog Q ⟨#[u0, .pointer (some ⟨b0, 0, none⟩), .pointer (some ⟨b0 + 1, 0, none⟩), .int .i64 ((Tr.sizes t.l : Int) + 1), .int .i64 (Tr.depths t.l), .pointer (some ⟨a0, 0, none⟩), u6, u7, u8, u9, u10, u11, u12, u13, u14, u15, u16, u17, u18, u19, u20, u21, u22, u23, u24, u25, u26, u27, u28, u29, u30, u31, u32, u33, u34, u35, u36, u37, u38, u39, u40, u41, u42, u43, u44, u45, u46, u47, u48, u49, u50, u51, u52, u53, u54, u55, u56, u57, u58, u59, u60, u61, u62, u63, u64, u65, u66, u67, u68, u69, u70, u71, u72, u73, u74, u75, u76, u77, u78, u79, u80, u81, u82, u83, u84, u85, u86, u87, u88, u89, u90, u91, u92, u93, u94, u95, u96, u97, u98, u99, u100, u101, u102, u103, u104, u105, u106, u107, u108, u109, u110], ds⟩ W := by
  dsimp only
  dsimp only at hQ
  have hSZ : ∀ wx, Below B0 w wx → B0 ≤ wx.heap.size → Calls Tryd.prog 12 #[.agg N] wx fun e w' => e = .returned (.int .i64 ((Tr.sizes t.l : Int) + 1)) ∧ Below wx.heap.size wx w' := fun wx hx hl => by
    have := size_c wx B0 hl t A c hd (hs.below hx) (by omega)
    rw [nodeV, ← hal, ← hN, size_mk] at this; exact this
  have hDP : ∀ wx, Below B0 w wx → B0 ≤ wx.heap.size → Calls Tryd.prog 13 #[.agg N] wx fun e w' => e = .returned (.int .i64 ((Tr.depths t.l : Int) + 1)) ∧ Below wx.heap.size wx w' := fun wx hx hl => by
    have := depth_c wx B0 hl t A c hd (hs.below hx) (by omega)
    rw [nodeV, ← hal, ← hN, depth_mk] at this; exact this
  have hdz : Tr.depths t.l ≤ 1000 := by have h1 := depth_le t; have h2 := depth_mk t; omega
  have hNs : N.size = 22 := by rw [hN]; rfl
  have hinf := infN
  rw [← hNs] at hinf
  have hNn : N = nodeA t.d A t.l.length c := by rw [hN, hal]
  have hlz : (areasT t).length ≤ 1000 := by have := areasT_le t; omega
  obtain ⟨sz0, hsz0⟩ : ∃ n, n = Tr.sizes t.l := ⟨_, rfl⟩
  obtain ⟨dp0, hdp0⟩ : ∃ n, n = Tr.depths t.l := ⟨_, rfl⟩
  rw [← hsz0] at hSZ ⊢
  rw [← hdp0] at hDP hdz ⊢
  have HSZ := Lib.hid hSZ
  have HDP := Lib.hid hDP
  have HQ := Lib.hid hQ
  have HTA := Lib.hid hta
  have HIN := Lib.hid hinf
  have HNN := Lib.hid hNn
  have HD := Lib.hid hd
  have HS := Lib.hid hs
  have HZ := Lib.hid hz
  have HLZ := Lib.hid hlz
  have hn0 := hta.node
  have hlt := hta.lt
  have HB := Lib.hid hb
  have HB0 := Lib.hid hB0
  clear hSZ hDP hQ hta hinf hNn hd hs hz hNs hN hal hsz0 hdp0 hlz hb hB0
  conv => arg 2; whnf
  go_wp2_with (first | (refine wpList_row rfl 34 _ rfl b0 rfl 34 N (0, 0) _ hn0 undN rfl HIN.out ?_) | fail)
  refine (areas_c N W).mono ?_
  rintro e w3 ⟨rfl, rfl⟩
  obtain ⟨r, hr⟩ : ∃ r, r = W.heap.size := ⟨_, rfl⟩
  rw [← hr]
  have hta1 := HTA.out.later HB.out HB0.out ((Below.refl _ W).alloc (Nat.le_refl _) (.cells N 34))
  have hr1 : (W.alloc (.cells N 34)).heap[r]? = some (.cells N 34) := by rw [hr]; exact heap_alloc_new _ _
  obtain ⟨W1, hW1⟩ : ∃ W1, W1 = W.alloc (.cells N 34) := ⟨_, rfl⟩
  rw [← hW1] at hta1 hr1 ⊢
  rw [← hr] at hlt
  have HTA1 := Lib.hid hta1
  have HR1 := Lib.hid hr1
  have HLT := Lib.hid hlt
  have hn1 := hta1.node
  have hl1 : B0 ≤ W1.heap.size := by have h1 := hta1.lt; have h2 := HB.out; have h3 := HB0.out; omega
  have hbe1 := hta1.below
  have HL1 := Lib.hid hl1
  have HBE1 := Lib.hid hbe1
  clear hr hW1 HTA hta1 hr1 hlt hn0 hl1 hbe1
  have efn := fun w => eqSfun w 34 #[.pointer (some ⟨r, 0, none⟩)]
  go_wp2_with (first | (refine wpList_row rfl 34 _ rfl b0 rfl 34 N (0, 0) _ hn1 undN rfl HIN.out ?_) | fail)
  refine (HSZ.out W1 HBE1.out HL1.out).mono ?_
  rintro e w2 ⟨rfl, hb2⟩
  have hta2 := HTA1.out.later HB.out HB0.out hb2
  have hr2 := (hb2.block r (Array.getElem?_eq_some_iff.1 HR1.out).1).trans HR1.out
  have hn2 := hta2.node
  have hl2 : B0 ≤ w2.heap.size := by have h1 := hta2.lt; have h2 := HB.out; have h3 := HB0.out; omega
  have hbe2 := hta2.below
  have HTA2 := Lib.hid hta2
  have HR2 := Lib.hid hr2
  have HL2 := Lib.hid hl2
  have HBE2 := Lib.hid hbe2
  clear hta2 hr2 hl2 hbe2 hb2 hn1
  go_wp2_with (first | (refine wpList_row (by kernel_rfl) 34 _ rfl b0 rfl 34 N (0, 0) _ hn2 undN rfl HIN.out ?_) | fail)
  refine (HDP.out w2 HBE2.out HL2.out).mono ?_
  rintro e w3 ⟨rfl, hb3⟩
  have hta3 := HTA2.out.later HB.out HB0.out hb3
  have hr3 := (hb3.block r (Array.getElem?_eq_some_iff.1 HR2.out).1).trans HR2.out
  have HTA3 := Lib.hid hta3
  have HR3 := Lib.hid hr3
  clear hta3 hr3 hb3 hn2
  have hov : (dp0 : Int) + 1 ≤ 9223372036854775807 := by omega
  go_wp2
  clear efn
  have hrl : r < w3.heap.size := (Array.getElem?_eq_some_iff.1 HR3.out).1
  have hta4 := HTA3.out.later HB.out HB0.out ((Below.refl _ w3).alloc (Nat.le_refl _) (.cells #[.int .i64 0] 3))
  have hk4 : Boxed (w3.alloc (.cells #[.int .i64 0] 3)) w3.heap.size 3 (.int .i64 0) := heap_alloc_new _ _
  have hr4 : (w3.alloc (.cells #[.int .i64 0] 3)).heap[r]? = some (.cells (nodeA t.d A t.l.length c) 34) := by rw [← HNN.out]; exact (heapOld _ _ _ hrl).trans HR3.out
  refine adds_range2 _ _ _ _ _ _ _ _ _ _ _ _ _ _ _ _ _ _ _ _ _ _ _ _ _ _ _ _ _ _ _ _ _ _ _ _ _ _ _ _ _ _ _ _ _ _ _ _ _ _ _ _ _ _ _ _ _ _ _ _ _ _ _ _ _ _ _ _ _ _ _ _ _ _ _ _ _ _ _ _ _ _ _ _ _ _ _ _ _ _ _ _ _ _ _ _ _ _ _ _ _ _ _ _ _ _ _ B0 b0 a0 r w3.heap.size c w _ N t A ds HB.out HB0.out HLT.out hrl hta4 hk4 hr4 HD.out HS.out HZ.out _ ?_
  intro D W' hta' hk'
  obtain ⟨Aa, cap, hbx, hrow⟩ := TA.slice hta'
  obtain ⟨u, hu⟩ := hta'.res
  obtain ⟨ln, hln⟩ : ∃ ln, ln = (areasT t).length := ⟨_, rfl⟩
  have hlm := HLZ.out
  rw [← hln] at hbx hk' hlm
  have hlm2 : ln ≤ 9223372036854775807 := by omega
  have hkc := hk'.cell
  have hac := hbx.cell
  have huc := hu.cell
  have huf := hu.frozen
  have HU := Lib.hid hu
  have HT2 := Lib.hid hta'
  clear hta' hk' hbx hrow hu hln hta4 hk4 hr4 hrl
  go_wp2
  have HM := HT2.out.marks
  exact HQ.out _ _ _ _ _ _ _ _ _ _ _ _ _ _ _ _ _ _ _ _ _ _ _ _ _ _ _ _ _ _ _ _ _ _ _ _ _ _ _ _ _ _ _ _ _ _ _ _ _ _ _ _ _ _ _ _ _ _ _ _ _ _ _ _ _ _ _ _ _ _ _ _ _ _ _ _ _ _ _ _ _ _ _ _ _ _ _ _ _ _ _ _ _ _ _ _ _ _ _ _ _ _ _ _ _ _ _ _ _ _ _ _ (HT2.out.below.setCell (by have := HB0.out; simp only; omega) _) (HU.out.set _) (HM.setCell _ _ (fun o ho => by rw [show W'.heap[b0 + 1]? = _ from HU.out] at ho; cases ho; rfl))
end Go.Proofs.YtggpffipijoddaaDoor
namespace Go.Proofs.YtggpffipijoddaaDoor
open Go Go.RowKit Go.Shelf

theorem adds9_22 : fromRegion 22 (fromRegion 9 addsC) = fromRegion 22 addsC := by kernel_rfl
set_option maxRecDepth 100000 in
set_option maxHeartbeats 4000000 in
theorem adds_from9 (u0 u6 u7 u8 u9 u10 u11 u12 u13 u14 u15 u16 u17 u18 u19 u20 u21 u22 u23 u24 u25 u26 u27 u28 u29 u30 u31 u32 u33 u34 u35 u36 u37 u38 u39 u40 u41 u42 u43 u44 u45 u46 u47 u48 u49 u50 u51 u52 u53 u54 u55 u56 u57 u58 u59 u60 u61 u62 u63 u64 u65 u66 u67 u68 u69 u70 u71 u72 u73 u74 u75 u76 u77 u78 u79 u80 u81 u82 u83 u84 u85 u86 u87 u88 u89 u90 u91 u92 u93 u94 u95 u96 u97 u98 u99 u100 u101 u102 u103 u104 u105 u106 u107 u108 u109 u110 : Value) (B0 b0 a0 c al : Nat) (w W : World) (N : Array Value) (t : Tr) (A : Option Addr) (hb : b0 + 1 < a0) (hB0 : B0 ≤ b0) (hal : al = t.l.length) (hN : N = nodeA t.d A al c) (hd : t.d.ok) (hs : SlAt w B0 A c t.l) (hz : t.size ≤ 1000) (hta : TA B0 b0 a0 w N (accA t 0) [] W) (Q : Exit → Act → World → Prop)
    (hQ : ∀ (u0 u1 u3 u4 u5 u6 u7 u8 u9 u10 u11 u12 u13 u14 u15 u16 u17 u18 u19 u20 u21 u22 u23 u24 u25 u26 u27 u28 u29 u30 u31 u32 u33 u34 u35 u36 u37 u38 u39 u40 u41 u42 u43 u44 u45 u46 u47 u48 u49 u50 u51 u52 u53 u54 u55 u56 u57 u58 u59 u60 u61 u62 u63 u64 u65 u66 u67 u68 u69 u70 u71 u72 u73 u74 u75 u76 u77 u78 u79 u80 u81 u82 u83 u84 u85 u86 u87 u88 u89 u90 u91 u92 u93 u94 u95 u96 u97 u98 u99 u100 u101 u102 u103 u104 u105 u106 u107 u108 u109 u110 : Value) (ds' : List Deferred) (W' : World), Below B0 w W' → Boxed W' (b0 + 1) 4 (.bool true) → Marks (a0 + 1) ds' W' → Q .ret ⟨#[u0, u1, .pointer (some ⟨b0 + 1, 0, none⟩), u3, u4, u5, u6, u7, u8, u9, u10, u11, u12, u13, u14, u15, u16, u17, u18, u19, u20, u21, u22, u23, u24, u25, u26, u27, u28, u29, u30, u31, u32, u33, u34, u35, u36, u37, u38, u39, u40, u41, u42, u43, u44, u45, u46, u47, u48, u49, u50, u51, u52, u53, u54, u55, u56, u57, u58, u59, u60, u61, u62, u63, u64, u65, u66, u67, u68, u69, u70, u71, u72, u73, u74, u75, u76, u77, u78, u79, u80, u81, u82, u83, u84, u85, u86, u87, u88, u89, u90, u91, u92, u93, u94, u95, u96, u97, u98, u99, u100, u101, u102, u103, u104, u105, u106, u107, u108, u109, u110], ds'⟩ W') :
    (fromRegion 9 addsC).wp Tryd.prog Q ⟨#[u0, .pointer (some ⟨b0, 0, none⟩), .pointer (some ⟨b0 + 1, 0, none⟩), .int .i64 1, .int .i64 0, .pointer (some ⟨a0, 0, none⟩), u6, u7, u8, u9, u10, u11, u12, u13, u14, u15, u16, u17, u18, u19, u20, u21, u22, u23, u24, u25, u26, u27, u28, u29, u30, u31, u32, u33, u34, u35, u36, u37, u38, u39, u40, u41, u42, u43, u44, u45, u46, u47, u48, u49, u50, u51, u52, u53, u54, u55, u56, u57, u58, u59, u60, u61, u62, u63, u64, u65, u66, u67, u68, u69, u70, u71, u72, u73, u74, u75, u76, u77, u78, u79, u80, u81, u82, u83, u84, u85, u86, u87, u88, u89, u90, u91, u92, u93, u94, u95, u96, u97, u98, u99, u100, u101, u102, u103, u104, u105, u106, u107, u108, u109, u110], []⟩ W := by
  dsimp only
  dsimp only at hQ
  have e22 := cut_from 22 (fromRegion 9 addsC)
  rw [adds9_22] at e22
  obtain ⟨C, hC⟩ : ∃ C, C = fromRegion 22 addsC := ⟨_, rfl⟩
  rw [← hC] at e22
  have HC := Lib.hid hC
  clear hC
  rw [← e22]
  clear e22
  have HQ := Lib.hid hQ
  have HTA := Lib.hid hta
  have HAL := Lib.hid hal
  have HN := Lib.hid hN
  have HD := Lib.hid hd
  have HS := Lib.hid hs
  have HZ := Lib.hid hz
  have HB := Lib.hid hb
  have HB0 := Lib.hid hB0
  clear hQ hta hal hN hd hs hz hb hB0
  conv => arg 2; whnf
  go_wp2
  refine adds_loop _ _ _ _ _ _ _ _ _ _ _ _ _ _ _ _ _ _ _ _ _ _ _ _ _ _ _ _ _ _ _ _ _ _ _ _ _ _ _ _ _ _ _ _ _ _ _ _ _ _ _ _ _ _ _ _ _ _ _ _ _ _ _ _ _ _ _ _ _ _ _ _ _ _ _ _ _ _ _ _ _ _ _ _ _ _ _ _ _ _ _ _ _ _ _ _ _ _ _ _ _ _ _ _ _ B0 b0 a0 c al w W N t A [] HB.out HB0.out HAL.out HN.out HS.out HZ.out HTA.out _ ?_
  intro v0 v7 v8 v9 v10 v11 v12 v13 v14 v15 v16 v17 v18 v19 v20 v21 v22 v23 v24 v25 v26 v27 v28 v29 v30 v31 v32 v33 v34 v35 v36 v37 v38 v39 v40 v41 v42 v43 v44 v45 v46 v47 v48 v49 v50 v51 v52 v53 v54 v55 v56 v57 v58 v59 v60 v61 v62 v63 v64 v65 v66 v67 v68 v69 v70 v71 v72 v73 v74 v75 v76 v77 v78 v79 v80 v81 v82 v83 v84 v85 v86 v87 v88 v89 v90 v91 v92 v93 v94 v95 v96 v97 v98 v99 v100 v101 v102 v103 v104 v105 v106 v107 v108 v109 v110 ds' W' hta'
  have HT := Lib.hid hta'
  clear hta'
  go_wp2
  rw [HC.out]
  exact adds_tail _ _ _ _ _ _ _ _ _ _ _ _ _ _ _ _ _ _ _ _ _ _ _ _ _ _ _ _ _ _ _ _ _ _ _ _ _ _ _ _ _ _ _ _ _ _ _ _ _ _ _ _ _ _ _ _ _ _ _ _ _ _ _ _ _ _ _ _ _ _ _ _ _ _ _ _ _ _ _ _ _ _ _ _ _ _ _ _ _ _ _ _ _ _ _ _ _ _ _ _ _ _ _ _ _ _ B0 b0 a0 c al w W' N t A ds' HB.out HB0.out HAL.out HN.out HD.out HS.out HZ.out HT.out Q HQ.out

theorem res_bool {tmps : Array Value} {b : Nat} {v : Value} {w : World} (hp : tmps.getD 2 undef = .pointer (some ⟨b, 0, none⟩)) (hc : w.cell? ⟨b, 0, none⟩ = some v) : (results Tryd.f5 tmps).run Tryd.prog w = .ok v w := by
  have h : Tryd.f5.results = #[.cell 2 4] := rfl
  have hp' : tmps[2]?.getD undef = .pointer (some ⟨b, 0, none⟩) := by rw [← hp]; simp
  simp only [results, h]
  simp [go_sem, hp', hc]
theorem adds_leaves {tmps : Array Value} {ds : List Deferred} {b0 a0 : Nat} {w W : World} (hB : w.heap.size ≤ a0 + 1) (h : Below w.heap.size w W) (hb : Boxed W (b0 + 1) 4 (.bool true)) (hm : Marks (a0 + 1) ds W) (hp : tmps.getD 2 undef = .pointer (some ⟨b0 + 1, 0, none⟩)) :
    bodyPostM Fence.wide 5 Tryd.prog Tryd.f5 (fun e w' => e = .returned (.bool true) ∧ Below w.heap.size w w') .ret ⟨tmps, ds⟩ W := by
  refine leaves_marks ds W hm (fun W' hw hk => ?_)
  have hb' : Boxed W' (b0 + 1) 4 (.bool true) := hk _ _ _ _ hb
  exact ⟨_, res_bool hp hb'.cell, rfl, h.trans (hw.mono hB)⟩
theorem area_cells (d : ND) (A : Option Addr) (n c j : Nat) (u : Value) (hu : (arC (d.a, d.b))[j]? = some u) : (nodeA d A n c)[8 + j]? = some u := by
  have hj : j < 12 := (List.getElem?_eq_some_iff.1 hu).1
  match j, hj with
  | 0, _ => exact hu
  | 1, _ => exact hu
  | 2, _ => exact hu
  | 3, _ => exact hu
  | 4, _ => exact hu
  | 5, _ => exact hu
  | 6, _ => exact hu
  | 7, _ => exact hu
  | 8, _ => exact hu
  | 9, _ => exact hu
  | 10, _ => exact hu
  | 11, _ => exact hu
/-- the first area is gathered. -/
theorem TA.push {B0 b0 a0 : Nat} {w W w1 : World} {N cs : Array Value} {acc : List (Cn × Cn)} {ds : List Deferred} {x : Cn × Cn} {v v' : Value} (hb : b0 + 1 < a0) (hB0 : B0 ≤ b0) (hta : TA B0 b0 a0 w N acc ds W) (hbx : Boxed W a0 43 v) (how : W.ownsRow (a0 + 1) 31 12 v acc.length (acc.flatMap arC))
    (hg : (W.alloc (.cells cs 31)).grownBy w1 v.ownBlock) (hw1 : w1.ownsRow (a0 + 1) 31 12 v' (acc.length + 1) (acc.flatMap arC ++ arC x)) : TA B0 b0 a0 w N (acc ++ [x]) ds (w1.setCell ⟨a0, 0, none⟩ v') := by
  have hlt := hta.lt
  have hown : ∀ k, v.ownBlock = some k → a0 + 1 ≤ k ∧ ∃ cur, W.heap[k]? = some (.cells cur 31) := by
    intro k hk
    rcases how.2 with ⟨e, _⟩ | ⟨g, cap, cur, e, h1, h2, -⟩
    · rw [e] at hk; cases hk
    · rw [e] at hk
      simp only [Value.ownBlock, Option.some.injEq] at hk
      subst hk
      exact ⟨h1, cur, h2⟩
  have hsame : ∀ k, k < W.heap.size → k ≠ a0 → v.ownBlock ≠ some k → (w1.setCell ⟨a0, 0, none⟩ v').heap[k]? = W.heap[k]? := by
    intro k hk h1 h2
    rw [Below.heap_setCell w1 _ v' k (fun e => h1 e)]
    exact (hg.block k (by rw [World.size_alloc]; omega) (fun e => h2 e.symm)).trans (heapOld _ _ _ hk)
  have hbx1 := box_grown hbx how hg
  have hty : ∀ (k : Nat) (T : TypeId), T ≠ 43 → T ≠ 31 → CellsOf W T k → (w1.setCell ⟨a0, 0, none⟩ v').heap[k]? = W.heap[k]? := by
    rintro k T h1 h2 ⟨cs', fz, hc⟩
    refine hsame k (Array.getElem?_eq_some_iff.1 hc).1 (fun e => ?_) (fun e => ?_)
    · subst e; have : W.heap[k]? = _ := hbx; rw [hc] at this; simp only [Option.some.injEq, Obj.cells.injEq] at this; exact h1 this.2.1
    · obtain ⟨-, cur, h3⟩ := hown k e
      rw [hc] at h3; simp only [Option.some.injEq, Obj.cells.injEq] at h3; exact h2 h3.2.1
  obtain ⟨u, hu⟩ := hta.res
  refine ⟨((hta.below.alloc (by have := hta.below.size; omega) _).grown hg (by rw [World.size_alloc]; have := hta.below.size; omega) (fun k e => by have := (hown k e).1; omega)).setCell (by simp only; omega) _, (hty _ 34 (by decide) (by decide) ⟨_, _, hta.node⟩).trans hta.node, ⟨u, (hty _ 4 (by decide) (by decide) ⟨_, _, hu⟩).trans hu⟩, ⟨v', hbx1.set _, ?_⟩, hta.marks.keep (fun k _ h => ?_), ?_⟩
  · rw [List.length_append, List.length_singleton, List.flatMap_append, List.flatMap_singleton]
    exact own_same hw1 (fun g cs' hc hg' => Below.heap_setCell w1 _ v' g (fun e => by simp at e; omega))
  · refine (hsame k (Array.getElem?_eq_some_iff.1 h).1 (fun e => ?_) (fun e => ?_)).trans h
    · subst e; have : W.heap[k]? = _ := hbx; rw [h] at this; cases this
    · obtain ⟨-, cur, h3⟩ := hown k e; rw [h] at h3; cases h3
  · have h1 := hg.size
    rw [World.size_alloc] at h1
    have h2 : w1.heap.size ≤ (w1.setCell ⟨a0, 0, none⟩ v').heap.size := ((Below.refl 0 w1).setCell (p := ⟨a0, 0, none⟩) (Nat.zero_le _) v').size
    omega
set_option maxRecDepth 100000 in
set_option maxHeartbeats 4000000 in
theorem treeAdds_walk (t : Tr) (w : World) (A : Option Addr) (c : Nat) (hd : t.d.ok) (hs : SlAt w w.heap.size A c t.l) (hz : t.size ≤ 1048576) (ht : Tab w) :
    Calls Tryd.prog 5 #[nodeV t.d A t.l.length c] w fun e w' => e = .returned (.bool true) ∧ Below w.heap.size w w' := by
  have hG := fun wx (hx : Below w.heap.size w wx) => great_c t wx w.heap.size A c hd (hs.below hx) hx.size hz
  obtain ⟨al, hal⟩ : ∃ al, al = t.l.length := ⟨_, rfl⟩
  rw [← hal] at hG ⊢
  obtain ⟨N, hN⟩ : ∃ N, N = nodeA t.d A al c := ⟨_, rfl⟩
  have hNs : N.size = 22 := by rw [hN]; rfl
  have hc0 : N[0]? = some (.int .i64 t.d.kind) := by rw [hN]; rfl
  simp only [nodeV, ← hN] at hG ⊢
  have hinf := infN
  rw [← hNs] at hinf
  have hgz : greatB t = false → t.size ≤ 1000 := by
    intro h
    unfold greatB at h
    simp only [Bool.or_eq_false_iff, decide_eq_false_iff_not] at h
    omega
  obtain ⟨g, hg⟩ : ∃ g, g = greatB t := ⟨_, rfl⟩
  rw [← hg] at hG hgz
  have HG := Lib.hid hG
  have HGZ := Lib.hid hgz
  have HIN := Lib.hid hinf
  have HT := Lib.hid ht
  have HN := Lib.hid hN
  have HD := Lib.hid hd
  have HS := Lib.hid hs
  have HAL := Lib.hid hal
  have HC0 := Lib.hid hc0
  clear hG hgz hinf hNs hN hal hd hs hg ht hc0 hz
  refine callsIn_wide (n := 5) |>.1 ?_
  refine callsIn_of_wp_marks Tryd.func5 rfl trivial ?_ rfl
  simp only [Tryd.ntmps5, List.size_toArray, List.length_cons, List.length_nil, Nat.reduceAdd, Nat.reduceSub, Array.replicate_succ, Array.replicate_zero, List.push_toArray, List.append_toArray, List.nil_append, List.cons_append]
  refine wpIn_wide.2 ?_
  have e9 := cut_from 9 addsC
  obtain ⟨C, hC⟩ : ∃ C, C = fromRegion 9 addsC := ⟨_, rfl⟩
  rw [← hC] at e9
  have HC := Lib.hid hC
  clear hC
  change Code.wp Tryd.prog addsC _ _ _
  rw [← e9]
  clear e9
  conv => arg 2; whnf; repeat (arg 2; whnf)
  obtain ⟨W0, hW0⟩ : ∃ W0, W0 = (w.alloc (.cells N 34)).alloc (.cells #[.bool false] 4) := ⟨_, rfl⟩
  have hb0 : Below w.heap.size w W0 := by rw [hW0]; exact ((Below.refl _ w).alloc (Nat.le_refl _) _).alloc (by simp) _
  have hsz0 : W0.heap.size = w.heap.size + 2 := by rw [hW0]; simp
  have hk0 : W0.heap[w.heap.size]? = some (.cells N 34) := by rw [hW0]; exact (heapOld _ _ _ (by simp)).trans (heap_alloc_new _ _)
  have hk1 : Boxed W0 (w.heap.size + 1) 4 (.bool false) := by
    rw [hW0]; have := heap_alloc_new (w.alloc (.cells N 34)) (.cells #[.bool false] 4); rwa [World.size_alloc] at this
  have hmono : ∀ wx, Below W0.heap.size W0 wx → Below w.heap.size w wx ∧ wx.heap[w.heap.size]? = some (.cells N 34) ∧ Boxed wx (w.heap.size + 1) 4 (.bool false) := fun wx hx =>
    ⟨hb0.trans (hx.mono (by omega)), (hx.block _ (by omega)).trans hk0, (hx.block _ (by omega)).trans hk1⟩
  have HM := Lib.hid hmono
  have HW0 := Lib.hid hW0
  have HB0 := Lib.hid hb0
  have HSZ0 := Lib.hid hsz0
  clear hmono hW0 hb0 hsz0 hk0 hk1
  go_wp2_with (fail)
  rw [← HW0.out]
  refine (awake_c W0 (tab_below HT.out HB0.out)).mono ?_
  rintro e w1 ⟨rfl, hb1⟩
  obtain ⟨hw1, hn1, hx1⟩ := HM.out w1 hb1
  have HB1 := Lib.hid hb1
  have HW1 := Lib.hid hw1
  have HX1 := Lib.hid hx1
  clear hb1 hw1 hx1
  go_wp2_with (first | (refine wpList_row rfl 34 _ rfl w.heap.size rfl 34 N (0, 0) _ hn1 undN rfl HIN.out ?_) | fail)
  refine (HG.out _ HW1.out).mono ?_
  rintro e w2 ⟨rfl, hb2⟩
  have hb2 : Below W0.heap.size W0 w2 := HB1.out.trans (hb2.mono HB1.out.size)
  obtain ⟨hw2, hn2, hx2⟩ := HM.out w2 hb2
  have HB2 := Lib.hid hb2
  have HW2 := Lib.hid hw2
  have HX2 := Lib.hid hx2
  have huc := hx2.cell
  have huf := hx2.frozen
  clear hb2 hw2 hx2 hn1
  cases g
  case true =>
    as_aux_lemma =>
    go_wp2
    exact adds_leaves (b0 := w.heap.size) (a0 := w.heap.size) (by omega) (HW2.out.setCell (by simp only; omega) _) (HX2.out.set _) trivial rfl
  case false =>
  have hz := HGZ.out rfl
  have HZ := Lib.hid hz
  clear hz
  obtain ⟨a0, ha0⟩ : ∃ a0, a0 = w2.heap.size := ⟨_, rfl⟩
  obtain ⟨W3, hW3⟩ : ∃ W3, W3 = w2.alloc (.cells #[.slice none 0 0] 43) := ⟨_, rfl⟩
  have hlt3 : w.heap.size + 1 < a0 := by rw [ha0]; exact (Array.getElem?_eq_some_iff.1 (show w2.heap[w.heap.size + 1]? = _ from HX2.out)).1
  have hbox3 : Boxed W3 a0 43 (.slice none 0 0) := by rw [hW3, ha0]; exact heap_alloc_new _ _
  have hn3 : W3.heap[w.heap.size]? = some (.cells N 34) := by rw [hW3]; exact (heapOld _ _ _ (by omega)).trans hn2
  have hta3 : TA w.heap.size w.heap.size a0 w N [] [] W3 := by
    refine ⟨by rw [hW3]; exact HW2.out.alloc HW2.out.size _, hn3, ⟨_, by rw [hW3]; exact (heapOld _ _ _ (by omega)).trans HX2.out⟩, ⟨_, hbox3, ⟨rfl, .inl ⟨rfl, rfl⟩⟩⟩, trivial, ?_⟩
    exact (Array.getElem?_eq_some_iff.1 (show W3.heap[a0]? = _ from hbox3)).1
  have hck : W3.cell? ⟨w.heap.size, 0, none⟩ = some (.int .i64 t.d.kind) := by rw [Lib.cell_of_heap hn3]; exact HC0.out
  have hca := hbox3.cell
  have hcf := hbox3.frozen
  obtain ⟨kd, hkd⟩ : ∃ kd, kd = t.d.kind := ⟨_, rfl⟩
  rw [← hkd] at hck
  have HW3 := Lib.hid hW3
  have HA0 := Lib.hid ha0
  have HTA3 := Lib.hid hta3
  have HB3 := Lib.hid hbox3
  have HN3 := Lib.hid hn3
  have HKD := Lib.hid hkd
  have HLT3 := Lib.hid hlt3
  clear hW3 ha0 hta3 hbox3 hn3 hkd hlt3 hn2 huc huf HX2
  have hX : (arC (t.d.a, t.d.b)).toArray.size = 12 := rfl
  obtain ⟨X, hXe⟩ : ∃ X, X = arC (t.d.a, t.d.b) := ⟨_, rfl⟩
  rw [← hXe] at hX
  have hXr : W3.rangeAt w.heap.size 8 X := by
    intro j u hu
    rw [hXe] at hu
    have hj : j < 12 := (List.getElem?_eq_some_iff.1 hu).1
    refine cell_of_row W3 w.heap.size (8 + j) N _ _ HN3.out |>.trans ?_
    rw [HN.out]
    exact area_cells t.d A al c j u hu
  have hXi : (Tryd.prog.info? 31).map (·.size) = some X.length := by rw [hXe]; exact infA
  have HXR := Lib.hid hXr
  have HXI := Lib.hid hXi
  have HXE := Lib.hid hXe
  have hXs : X.toArray.size = 12 := hX
  clear hXr hXi hXe hX
  obtain ⟨ti, hti⟩ : ∃ ti, Tryd.prog.info? 31 = some ti := by
    have := infA
    cases h : Tryd.prog.info? 31 with
    | none => rw [h] at this; cases this
    | some ti => exact ⟨ti, rfl⟩
  have hz0 := zeroA
  have hz1 := infA
  have hz2 := bytA
  have hz3 := zcA
  rw [hti] at hz0 hz1 hz2 hz3
  simp only [Option.map_some, Option.some.injEq, Option.bind_some] at hz0 hz1 hz2 hz3
  obtain ⟨z, hzz⟩ := Option.isSome_iff_exists.1 hz0
  rw [hzz] at hz3
  simp only [Option.map_some, Option.some.injEq] at hz3
  have HTI := Lib.hid hti
  have HZ1 := Lib.hid hz1
  have HZ2 := Lib.hid hz2
  have HZZ := Lib.hid hzz
  have HZ3 := Lib.hid hz3
  clear hz0 hz1 hz2 hz3 hti hzz
  go_upto_region 7 with (first | fail)
  rw [← HW3.out, ← HA0.out]
  have KIND : (kd = 1 ∨ kd = 3 ∨ kd = 2) ∨ (¬ kd = 1 ∧ ¬ kd = 3 ∧ ¬ kd = 2) := by omega
  rcases KIND with (h | h | h) | ⟨h1, h2, h3⟩
  · subst h
    as_aux_lemma =>
    have hac : accA t 0 = [(t.d.a, t.d.b)] := by
      rw [accA_zero]; unfold areaD; rw [← HKD.out, if_pos (by omega)]; rfl
    have HAC := Lib.hid hac
    clear hac
    go_wp2_with (first | (refine wpList_mid rfl 31 _ rfl w.heap.size 8 rfl X _ HXR.out undA rfl HXI.out ?_) | (refine wpList_oneArea rfl _ rfl X.toArray rfl hXs ?_) | (refine wpList_append_own_at _ rfl _ _ 43 rfl (a0 + 1) 31 ti z 12 80 undAs HTI.out HZZ.out HZ1.out HZ2.out HZ3.out (by decide) (.slice none 0 0) 0 [] rfl ⟨rfl, .inl ⟨rfl, rfl⟩⟩ ⟨W3.heap.size, 0, none⟩ 1 1 X.toArray.toList rfl (by simpa using hXs) (World.news_of_block (heap_alloc_new W3 _)) (by rw [HXE.out]; intro u hu; exact arC_one _ u (by simpa using hu)) (by unfold maxLen; omega) (by omega) (by have := HTA3.out.lt; simp; omega) ?_; intro v' w1 hown hgrow hnil hat; clear hnil hat; obtain ⟨g, cap, cur, rfl, -⟩ := own_form hown (by omega); have hbx1 := box_grown HB3.out (n := 0) (xs := []) ⟨rfl, .inl ⟨rfl, rfl⟩⟩ hgrow; have hcc := hbx1.cell; have hff := hbx1.frozen))
    rw [HC.out]
    have hown' : w1.ownsRow (a0 + 1) 31 12 (.slice (some ⟨g, 0, none⟩) (0 + 1) cap) (([] : List (Cn × Cn)).length + 1) (([] : List (Cn × Cn)).flatMap arC ++ arC (t.d.a, t.d.b)) := by rw [HXE.out] at hown; exact hown
    have hta4 := TA.push (x := (t.d.a, t.d.b)) HLT3.out (Nat.le_refl _) HTA3.out HB3.out ⟨rfl, .inl ⟨rfl, rfl⟩⟩ hgrow hown'
    exact adds_from9 _ _ _ _ _ _ _ _ _ _ _ _ _ _ _ _ _ _ _ _ _ _ _ _ _ _ _ _ _ _ _ _ _ _ _ _ _ _ _ _ _ _ _ _ _ _ _ _ _ _ _ _ _ _ _ _ _ _ _ _ _ _ _ _ _ _ _ _ _ _ _ _ _ _ _ _ _ _ _ _ _ _ _ _ _ _ _ _ _ _ _ _ _ _ _ _ _ _ _ _ _ _ _ _ _ _ w.heap.size w.heap.size a0 c al w _ N t A HLT3.out (Nat.le_refl _) HAL.out HN.out HD.out HS.out HZ.out (by rw [HAC.out]; exact hta4) _ (by
      intro u0 u1 u3 u4 u5 u6 u7 u8 u9 u10 u11 u12 u13 u14 u15 u16 u17 u18 u19 u20 u21 u22 u23 u24 u25 u26 u27 u28 u29 u30 u31 u32 u33 u34 u35 u36 u37 u38 u39 u40 u41 u42 u43 u44 u45 u46 u47 u48 u49 u50 u51 u52 u53 u54 u55 u56 u57 u58 u59 u60 u61 u62 u63 u64 u65 u66 u67 u68 u69 u70 u71 u72 u73 u74 u75 u76 u77 u78 u79 u80 u81 u82 u83 u84 u85 u86 u87 u88 u89 u90 u91 u92 u93 u94 u95 u96 u97 u98 u99 u100 u101 u102 u103 u104 u105 u106 u107 u108 u109 u110 ds' W' h1 h2 h3
      exact adds_leaves (b0 := w.heap.size) (a0 := a0) (by have := HLT3.out; omega) h1 h2 h3 rfl)
  · subst h
    as_aux_lemma =>
    have hac : accA t 0 = [(t.d.a, t.d.b)] := by
      rw [accA_zero]; unfold areaD; rw [← HKD.out, if_pos (by omega)]; rfl
    have HAC := Lib.hid hac
    clear hac
    go_wp2_with (first | (refine wpList_mid rfl 31 _ rfl w.heap.size 8 rfl X _ HXR.out undA rfl HXI.out ?_) | (refine wpList_oneArea rfl _ rfl X.toArray rfl hXs ?_) | (refine wpList_append_own_at _ rfl _ _ 43 rfl (a0 + 1) 31 ti z 12 80 undAs HTI.out HZZ.out HZ1.out HZ2.out HZ3.out (by decide) (.slice none 0 0) 0 [] rfl ⟨rfl, .inl ⟨rfl, rfl⟩⟩ ⟨W3.heap.size, 0, none⟩ 1 1 X.toArray.toList rfl (by simpa using hXs) (World.news_of_block (heap_alloc_new W3 _)) (by rw [HXE.out]; intro u hu; exact arC_one _ u (by simpa using hu)) (by unfold maxLen; omega) (by omega) (by have := HTA3.out.lt; simp; omega) ?_; intro v' w1 hown hgrow hnil hat; clear hnil hat; obtain ⟨g, cap, cur, rfl, -⟩ := own_form hown (by omega); have hbx1 := box_grown HB3.out (n := 0) (xs := []) ⟨rfl, .inl ⟨rfl, rfl⟩⟩ hgrow; have hcc := hbx1.cell; have hff := hbx1.frozen))
    rw [HC.out]
    have hown' : w1.ownsRow (a0 + 1) 31 12 (.slice (some ⟨g, 0, none⟩) (0 + 1) cap) (([] : List (Cn × Cn)).length + 1) (([] : List (Cn × Cn)).flatMap arC ++ arC (t.d.a, t.d.b)) := by rw [HXE.out] at hown; exact hown
    have hta4 := TA.push (x := (t.d.a, t.d.b)) HLT3.out (Nat.le_refl _) HTA3.out HB3.out ⟨rfl, .inl ⟨rfl, rfl⟩⟩ hgrow hown'
    exact adds_from9 _ _ _ _ _ _ _ _ _ _ _ _ _ _ _ _ _ _ _ _ _ _ _ _ _ _ _ _ _ _ _ _ _ _ _ _ _ _ _ _ _ _ _ _ _ _ _ _ _ _ _ _ _ _ _ _ _ _ _ _ _ _ _ _ _ _ _ _ _ _ _ _ _ _ _ _ _ _ _ _ _ _ _ _ _ _ _ _ _ _ _ _ _ _ _ _ _ _ _ _ _ _ _ _ _ _ w.heap.size w.heap.size a0 c al w _ N t A HLT3.out (Nat.le_refl _) HAL.out HN.out HD.out HS.out HZ.out (by rw [HAC.out]; exact hta4) _ (by
      intro u0 u1 u3 u4 u5 u6 u7 u8 u9 u10 u11 u12 u13 u14 u15 u16 u17 u18 u19 u20 u21 u22 u23 u24 u25 u26 u27 u28 u29 u30 u31 u32 u33 u34 u35 u36 u37 u38 u39 u40 u41 u42 u43 u44 u45 u46 u47 u48 u49 u50 u51 u52 u53 u54 u55 u56 u57 u58 u59 u60 u61 u62 u63 u64 u65 u66 u67 u68 u69 u70 u71 u72 u73 u74 u75 u76 u77 u78 u79 u80 u81 u82 u83 u84 u85 u86 u87 u88 u89 u90 u91 u92 u93 u94 u95 u96 u97 u98 u99 u100 u101 u102 u103 u104 u105 u106 u107 u108 u109 u110 ds' W' h1 h2 h3
      exact adds_leaves (b0 := w.heap.size) (a0 := a0) (by have := HLT3.out; omega) h1 h2 h3 rfl)
  · subst h
    as_aux_lemma =>
    have hac : accA t 0 = [(t.d.a, t.d.b)] := by
      rw [accA_zero]; unfold areaD; rw [← HKD.out, if_pos (by omega)]; rfl
    have HAC := Lib.hid hac
    clear hac
    go_wp2_with (first | (refine wpList_mid rfl 31 _ rfl w.heap.size 8 rfl X _ HXR.out undA rfl HXI.out ?_) | (refine wpList_oneArea rfl _ rfl X.toArray rfl hXs ?_) | (refine wpList_append_own_at _ rfl _ _ 43 rfl (a0 + 1) 31 ti z 12 80 undAs HTI.out HZZ.out HZ1.out HZ2.out HZ3.out (by decide) (.slice none 0 0) 0 [] rfl ⟨rfl, .inl ⟨rfl, rfl⟩⟩ ⟨W3.heap.size, 0, none⟩ 1 1 X.toArray.toList rfl (by simpa using hXs) (World.news_of_block (heap_alloc_new W3 _)) (by rw [HXE.out]; intro u hu; exact arC_one _ u (by simpa using hu)) (by unfold maxLen; omega) (by omega) (by have := HTA3.out.lt; simp; omega) ?_; intro v' w1 hown hgrow hnil hat; clear hnil hat; obtain ⟨g, cap, cur, rfl, -⟩ := own_form hown (by omega); have hbx1 := box_grown HB3.out (n := 0) (xs := []) ⟨rfl, .inl ⟨rfl, rfl⟩⟩ hgrow; have hcc := hbx1.cell; have hff := hbx1.frozen))
    rw [HC.out]
    have hown' : w1.ownsRow (a0 + 1) 31 12 (.slice (some ⟨g, 0, none⟩) (0 + 1) cap) (([] : List (Cn × Cn)).length + 1) (([] : List (Cn × Cn)).flatMap arC ++ arC (t.d.a, t.d.b)) := by rw [HXE.out] at hown; exact hown
    have hta4 := TA.push (x := (t.d.a, t.d.b)) HLT3.out (Nat.le_refl _) HTA3.out HB3.out ⟨rfl, .inl ⟨rfl, rfl⟩⟩ hgrow hown'
    exact adds_from9 _ _ _ _ _ _ _ _ _ _ _ _ _ _ _ _ _ _ _ _ _ _ _ _ _ _ _ _ _ _ _ _ _ _ _ _ _ _ _ _ _ _ _ _ _ _ _ _ _ _ _ _ _ _ _ _ _ _ _ _ _ _ _ _ _ _ _ _ _ _ _ _ _ _ _ _ _ _ _ _ _ _ _ _ _ _ _ _ _ _ _ _ _ _ _ _ _ _ _ _ _ _ _ _ _ _ w.heap.size w.heap.size a0 c al w _ N t A HLT3.out (Nat.le_refl _) HAL.out HN.out HD.out HS.out HZ.out (by rw [HAC.out]; exact hta4) _ (by
      intro u0 u1 u3 u4 u5 u6 u7 u8 u9 u10 u11 u12 u13 u14 u15 u16 u17 u18 u19 u20 u21 u22 u23 u24 u25 u26 u27 u28 u29 u30 u31 u32 u33 u34 u35 u36 u37 u38 u39 u40 u41 u42 u43 u44 u45 u46 u47 u48 u49 u50 u51 u52 u53 u54 u55 u56 u57 u58 u59 u60 u61 u62 u63 u64 u65 u66 u67 u68 u69 u70 u71 u72 u73 u74 u75 u76 u77 u78 u79 u80 u81 u82 u83 u84 u85 u86 u87 u88 u89 u90 u91 u92 u93 u94 u95 u96 u97 u98 u99 u100 u101 u102 u103 u104 u105 u106 u107 u108 u109 u110 ds' W' h1 h2 h3
      exact adds_leaves (b0 := w.heap.size) (a0 := a0) (by have := HLT3.out; omega) h1 h2 h3 rfl)
  · as_aux_lemma =>
    have q1 : (kd == 1) = false := by simpa using h1
    have q2 : (kd == 3) = false := by simpa using h2
    have q3 : (kd == 2) = false := by simpa using h3
    have q4 : decide (kd = 1) = false := by simpa using h1
    have q5 : decide (kd = 3) = false := by simpa using h2
    have q6 : decide (kd = 2) = false := by simpa using h3
    have hac : accA t 0 = [] := by
      rw [accA_zero]; unfold areaD; rw [← HKD.out, if_neg (by omega)]; rfl
    have HAC := Lib.hid hac
    clear hac
    go_wp2
    rw [HC.out]
    exact adds_from9 _ _ _ _ _ _ _ _ _ _ _ _ _ _ _ _ _ _ _ _ _ _ _ _ _ _ _ _ _ _ _ _ _ _ _ _ _ _ _ _ _ _ _ _ _ _ _ _ _ _ _ _ _ _ _ _ _ _ _ _ _ _ _ _ _ _ _ _ _ _ _ _ _ _ _ _ _ _ _ _ _ _ _ _ _ _ _ _ _ _ _ _ _ _ _ _ _ _ _ _ _ _ _ _ _ _ w.heap.size w.heap.size a0 c al w W3 N t A HLT3.out (Nat.le_refl _) HAL.out HN.out HD.out HS.out HZ.out (by rw [HAC.out]; exact HTA3.out) _ (by
      intro u0 u1 u3 u4 u5 u6 u7 u8 u9 u10 u11 u12 u13 u14 u15 u16 u17 u18 u19 u20 u21 u22 u23 u24 u25 u26 u27 u28 u29 u30 u31 u32 u33 u34 u35 u36 u37 u38 u39 u40 u41 u42 u43 u44 u45 u46 u47 u48 u49 u50 u51 u52 u53 u54 u55 u56 u57 u58 u59 u60 u61 u62 u63 u64 u65 u66 u67 u68 u69 u70 u71 u72 u73 u74 u75 u76 u77 u78 u79 u80 u81 u82 u83 u84 u85 u86 u87 u88 u89 u90 u91 u92 u93 u94 u95 u96 u97 u98 u99 u100 u101 u102 u103 u104 u105 u106 u107 u108 u109 u110 ds' W' h1 h2 h3
      exact adds_leaves (b0 := w.heap.size) (a0 := a0) (by have := HLT3.out; omega) h1 h2 h3 rfl)
end Go.Proofs.YtggpffipijoddaaDoor
