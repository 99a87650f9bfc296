/- cells.New, cells.isCell, cells.copied of a value, the law's five. The keys of a store of cells, what it reads as; Len. -/
import Derived.Test.YtelombedjkbckaaGreatDoorXaXb
import Derived.Test.YtelombedjkbckaaGreatDoorNwZnCuRh
import Derived.Test.YtelombedjkbckaaGreatDoorMgMh
import Derived.Maps.OwnSet
import Derived.Maps.Keyed
import Derived.DeepKeys4
namespace Go.Proofs.YtelombedjkbckaaGreatDoor
open Go Go.RowKit Go.Shelf

/-- a variable for a content is laid. -/
theorem wpList_contVar {ops : Array Oper} {rest : List Oper} {o : Oper} {a : Act} {w : World} {Q : Exit → Act → World → Prop} (hg : o.guard = none) (ho : o.op = .alloc 43) (g : Nat) (hz : w.heap.size = g)
    (h : wpList Tryz.prog ops Q rest (a.put o.dst (.pointer (some ⟨g, 0, none⟩))) (w.alloc (.cells (contA zCt none 0) 43))) : wpList Tryz.prog ops Q (o :: rest) a w := by
  subst hz
  refine Great.wpList_allocTo hg o.dst rfl _ _ ?_ h
  unfold execOp
  simp only [ho]
  kernel_rfl
theorem cont_one (x : Ct) (A : Option Addr) (c : Nat) : (contA x A c).all (·.oneCell') = true := by
  refine all_oneCell_toArray (fun u hu => ?_)
  rcases List.mem_append.1 hu with h | h
  · simp only [Ct.head, Vl.cells, List.mem_cons, List.not_mem_nil, or_false] at h
    rcases h with rfl | rfl | rfl | rfl | rfl | rfl | rfl <;> rfl
  · exact head_one _ _ _ _ u (by simpa [nodeA] using h)
theorem there_row {w : World} {g : Nat} {cs : Array Value} {t : TypeId} (h : w.heap[g]? = some (.cells cs t)) (o n : Nat) (hn : o + n ≤ cs.size) : w.there g o n := by
  intro j hj
  refine ⟨?_, ?_⟩
  · simp only [World.cell?, h]
    simp; omega
  · simp only [World.frozen?, h]
    simp
theorem range_join {w : World} {b o : Nat} {l l' : List Value} (h : w.rangeAt b o l) (h' : w.rangeAt b (o + l.length) l') : w.rangeAt b o (l ++ l') := by
  intro j v hv
  by_cases hj : j < l.length
  · exact h j v (by rwa [List.getElem?_append_left hj] at hv)
  · rw [List.getElem?_append_right (by omega)] at hv
    have := h' _ v hv
    rwa [show o + l.length + (j - l.length) = o + j by omega] at this

/-- a value's content, as it lies in a store. -/
def plainC (x : Ct) : Ct := ⟨x.k, x.v, zTr⟩

set_option maxRecDepth 100000 in
set_option maxHeartbeats 2000000 in
theorem copiedP_c (x : Ct) (w : World) (A : Option Addr) (c : Nat) (hk : ¬ x.k = 2) :
    Calls Tryz.prog 33 #[contV x A c] w fun e w' => e = .returned (contV (plainC x) none 0) ∧ Below w.heap.size w w' := by
  obtain ⟨W0, hW0⟩ : ∃ W0, W0 = (w.alloc (.cells (contA x A c) 43)).alloc (.cells (contA zCt none 0) 43) := ⟨_, rfl⟩
  have hbel : Below w.heap.size w W0 := by rw [hW0]; exact ((Below.refl _ w).alloc (Nat.le_refl _) _).alloc (by simp) _
  have hz0 : W0.heap.size = w.heap.size + 2 := by rw [hW0]; simp
  have hk0 : W0.heap[w.heap.size]? = some (.cells (contA x A c) 43) := by rw [hW0]; exact (heapOld _ _ _ (by simp)).trans (heap_alloc_new _ _)
  have hk1 : W0.heap[w.heap.size + 1]? = some (.cells (contA zCt none 0) 43) := by
    rw [hW0]
    have := heap_alloc_new (w.alloc (.cells (contA x A c) 43)) (.cells (contA zCt none 0) 43)
    rwa [World.size_alloc] at this
  obtain ⟨b, hb⟩ : ∃ b, b = w.heap.size := ⟨_, rfl⟩
  obtain ⟨W1, hW1⟩ : ∃ W1, W1 = W0.setCells b 7 (nodeA zNd none 0 0).toList := ⟨_, rfl⟩
  rw [← hb] at hk0 hk1 hz0
  have hth : W0.there b 7 (nodeA zNd none 0 0).size := there_row hk0 _ _ (by rw [contA_size, nodeA_size]; decide)
  have hrow := cont_row hk0
  have hh : W0.rangeAt b 0 x.head := by
    intro j v hv
    match j with
    | 0 => simp only [Ct.head, List.getElem?_cons_zero, Option.some.injEq] at hv; subst hv; exact hrow.1
    | j + 1 => have := hrow.2.1 j v (by simpa [Ct.head] using hv); rwa [show 1 + j = 0 + (j + 1) by omega] at this
  have hr1 : W1.rangeAt b 0 (contA (plainC x) none 0).toList := by
    have h1 : W1.rangeAt b 0 x.head := by rw [hW1]; exact World.rangeAt_setCells_apart hh _ _ _ (.inr (.inl (by simp [Ct.head, Vl.cells])))
    have h2 : W1.rangeAt b 7 (nodeA zNd none 0 0).toList := by rw [hW1]; exact World.rangeAt_setCells_same _ _ _ _ (by rw [Array.length_toList]; exact hth)
    exact range_join h1 h2
  have hk11 : W1.heap[b + 1]? = some (.cells (contA zCt none 0) 43) := by rw [hW1, heap_setCells_far _ (by omega)]; exact hk1
  have hb1 : Below w.heap.size w W1 := by rw [hW1]; exact hbel.trans (below_setCells2 (by omega) _ _ _)
  have e0 := hrow.1
  have hiz : (Tryz.prog.info? 41).map (·.size) = some (nodeA zNd none 0 0).size := by rw [nodeA_size]; exact infN
  have hoz : (nodeA zNd none 0 0).all (·.oneCell') = true := all_oneCell_toArray (fun u hu => head_one zNd none 0 0 u hu)
  have hoc := cont_one (plainC x) none 0
  have hic := infC
  obtain ⟨CA, hCA⟩ : ∃ C, C = contA x A c := ⟨_, rfl⟩
  obtain ⟨CY, hCY⟩ : ∃ C, C = contA (plainC x) none 0 := ⟨_, rfl⟩
  have hys : CY.size = 29 := by rw [hCY]; rfl
  have hzs : (contA zCt none 0).size = CY.size := by rw [hys]; rfl
  rw [contV, contV, ← hCA, ← hCY]
  rw [← hCA] at hW0
  rw [← hCY] at hr1 hoc
  rw [← hys] at hic
  have hil : (Tryz.prog.info? 43).map (·.size) = some CY.toList.length := by rw [Array.length_toList]; exact hic
  have q2 : (x.k == 2) = false := by simpa using hk
  obtain ⟨k, v, t⟩ := x
  dsimp only at e0 q2
  have HW0 := Lib.hid hW0
  have HW1 := Lib.hid hW1
  have HTH := Lib.hid hth
  have HR1 := Lib.hid hr1
  have HK11 := Lib.hid hk11
  have HB1 := Lib.hid hb1
  have HIZ := Lib.hid hiz
  have HOZ := Lib.hid hoz
  have HOC := Lib.hid hoc
  have HIC := Lib.hid hic
  have HIL := Lib.hid hil
  have HZS := Lib.hid hzs
  have HYS := Lib.hid hys
  have HB := Lib.hid hb
  clear hW0 hW1 hth hr1 hk11 hb1 hiz hoz hoc hic hil hzs hys hk0 hk1 hz0 hrow hh hbel hCA hCY hk hb
  go_enter Tryz.func33, Tryz.ntmps33
  go_upto_region 1 with (refine wpList_contVar rfl rfl (w.heap.size + 1) (by simp) ?_)
  rw [← HW0.out, ← HB.out]
  go_wp2_with (first | (refine wpList_store_mid rfl 41 _ _ rfl b 7 (nodeA zNd none 0 0) rfl rfl HTH.out HIZ.out HOZ.out ?_; rw [← HW1.out]) | (refine wpList_mid rfl 43 _ rfl b 0 rfl CY.toList _ HR1.out undC rfl HIL.out ?_; simp only [Array.toArray_toList]) | (refine wpList_store_row rfl 43 _ _ rfl (b + 1) CY rfl rfl 43 (contA zCt none 0) HK11.out HIC.out HZS.out HOC.out ?_))
  refine bodyPost_ret (v := .agg CY) (results_cell_row rfl _ _ (b + 1) 43 CY (0, 0) _ rfl (setRow_heap _ _ _ _ _ _ HK11.out) undC rfl HIC.out) rfl ?_
  exact ⟨rfl, below_row HB1.out (by rw [HB.out]; omega) _⟩

theorem new_c (w : World) : Calls Tryz.prog 11 #[] w fun e w' => e = .returned (.pointer (some ⟨w.heap.size, 0, none⟩)) ∧ w' = w.alloc (.cells #[.map none] 62) := by
  go_enter Tryz.func11, Tryz.ntmps11
  go_wp2
  go_ret
  exact ⟨rfl, rfl⟩

/-- the number -5. -/
def fiveC : Ct := ⟨1, ⟨1, -5, 0, ByteArray.mk #[], false, 0⟩, zTr⟩
set_option maxRecDepth 100000 in
set_option maxHeartbeats 2000000 in
theorem five_c (w : World) : Calls Tryz.prog 29 #[] w fun e w' => e = .returned (contV fiveC none 0) ∧ Below w.heap.size w w' := by
  have hic : (Tryz.prog.info? 43).map (·.size) = some (contA fiveC none 0).size := infC
  have hoc := cont_one fiveC none 0
  have HIC := Lib.hid hic
  have HOC := Lib.hid hoc
  clear hic hoc
  go_enter Tryz.func29, Tryz.ntmps29
  go_wp2_with (first | (refine wpList_contVar rfl rfl w.heap.size rfl ?_) | (refine wpList_storeFresh rfl 43 _ _ rfl w.heap.size rfl (contA fiveC none 0) rfl rfl HIC.out rfl HOC.out ?_))
  refine bodyPost_ret (v := contV fiveC none 0) (results_cell_row rfl _ _ w.heap.size 43 (contA fiveC none 0) (0, 0) _ rfl (World.alloc_heap_new w _) undC rfl HIC.out) rfl ?_
  exact ⟨rfl, (Below.refl _ w).alloc (Nat.le_refl _) _⟩

/-- is it a cell? -/
def isCellB (ra rn ca cn : Int) : Bool := !decide (ra = 0 ∧ rn = 0) && !decide (ca = 0 ∧ cn = 0)
set_option maxRecDepth 100000 in
theorem isCell_c (ra rn ca cn : Int) (w : World) : Calls Tryz.prog 32 #[.agg #[.int .i64 ra, .int .i64 rn, .int .i64 ca, .int .i64 cn]] w fun e w' => e = .returned (.bool (isCellB ra rn ca cn)) ∧ Below w.heap.size w w' := by
  have h1 := fun w => eqI w ra rn 0 0
  have h2 := fun w => eqI w ca cn 0 0
  unfold isCellB
  obtain ⟨r1, hr1⟩ : ∃ r, decide (ra = 0 ∧ rn = 0) = r := ⟨_, rfl⟩
  obtain ⟨r2, hr2⟩ : ∃ r, decide (ca = 0 ∧ cn = 0) = r := ⟨_, rfl⟩
  rw [hr1] at h1 ⊢
  rw [hr2] at h2 ⊢
  clear hr1 hr2
  cases r1
  all_goals
    go_enter Tryz.func32, Tryz.ntmps32
    go_wp2
    go_ret
    exact ⟨ret_bool (by simp), (Below.refl _ w).alloc (Nat.le_refl _) _⟩
end Go.Proofs.YtelombedjkbckaaGreatDoor
namespace Go.Proofs.YtelombedjkbckaaGreatDoor
open Go Go.RowKit Go.Shelf Go.Maps

/-- a cell. -/
structure Ad where
  ra : Int
  rn : Int
  ca : Int
  cn : Int
def Ad.val (a : Ad) : Value := .agg #[.int .i64 a.ra, .int .i64 a.rn, .int .i64 a.ca, .int .i64 a.cn]
def Ad.ok (a : Ad) : Prop := i64 a.ra ∧ i64 a.rn ∧ i64 a.ca ∧ i64 a.cn
def Ad.is (a : Ad) : Bool := isCellB a.ra a.rn a.ca a.cn
def Ad.key (a : Ad) : Lit := .string (keyBytes [.int .i64 a.ra, .int .i64 a.rn, .int .i64 a.ca, .int .i64 a.cn])
theorem undCell : Tryz.prog.underlying 30 = some (.struct (Tryz.prog.fieldsOf 30)) := by kernel_rfl
theorem undId : Tryz.prog.underlying 28 = some (.struct (Tryz.prog.fieldsOf 28)) := by kernel_rfl
theorem undInt : Tryz.prog.underlying 3 = some (.int .i64) := by kernel_rfl
theorem cell_law : Keyed Tryz.prog 30 := Keyed.of_law (deep_law_laid (by kernel_rfl) (m := 3) (by decide) (of_decide_eq_true (by kernel_rfl)) (by kernel_rfl) (by kernel_rfl))
theorem wf_i64 {n : Int} (h : i64 n) : (Lit.int .i64 n).wf = true := by
  unfold i64 at h
  simp [Lit.wf, IntKind.min, IntKind.max, IntKind.signed, IntKind.bits]
  omega
theorem keyLits_int (d : Nat) {n : Int} (h : i64 n) : Tryz.prog.keyLits (d + 1) 3 [.int .i64 n] = some [.int .i64 n] := by
  unfold Program.keyLits
  simp only [undInt]
  rw [if_pos ⟨trivial, wf_i64 h⟩]
theorem keyLits_id (d : Nat) {a n : Int} (h : i64 a) (h' : i64 n) : Tryz.prog.keyLits (d + 2) 28 [.int .i64 a, .int .i64 n] = some [.int .i64 a, .int .i64 n] := by
  unfold Program.keyLits
  simp only [undId]
  rw [if_pos ⟨by kernel_rfl, by kernel_rfl⟩]
  have hf : (Tryz.prog.fieldsOf 28).toList.map (fun f => (f.type, f.offset)) = [(3, 0), (3, 1)] := by kernel_rfl
  have hc : Tryz.prog.cellsOf 3 = 1 := by kernel_rfl
  generalize (Tryz.prog.fieldsOf 28).toList = fs at hf
  obtain ⟨f0, fs, rfl⟩ : ∃ f0 r, fs = f0 :: r := by cases fs with | nil => simp at hf | cons a l => exact ⟨a, l, rfl⟩
  obtain ⟨f1, fs, rfl⟩ : ∃ f0 r, fs = f0 :: r := by cases fs with | nil => simp at hf | cons a l => exact ⟨a, l, rfl⟩
  obtain rfl : fs = [] := by cases fs with | nil => rfl | cons a l => simp at hf
  simp only [List.map_cons, List.map_nil, List.cons.injEq, Prod.mk.injEq, and_true] at hf
  obtain ⟨⟨t0, o0⟩, t1, o1⟩ := hf
  rw [List.mapM_cons, List.mapM_cons, List.mapM_nil, t0, o0, t1, o1, hc]
  simp [keyLits_int d h, keyLits_int d h']
theorem key_eq (a : Ad) (h : a.ok) : keyOf Tryz.prog 30 a.val = some a.key := by
  obtain ⟨ra, rn, ca, cn⟩ := a
  obtain ⟨h1, h2, h3, h4⟩ := h
  dsimp only at h1 h2 h3 h4
  unfold keyOf Ad.val Ad.key
  simp only [undCell, Value.cells]
  rw [if_pos (by kernel_rfl)]
  obtain ⟨d, hd⟩ : ∃ d, Tryz.prog.types.size + 1 = d + 3 := ⟨Tryz.prog.types.size - 2, by kernel_rfl⟩
  rw [hd]
  unfold Program.keyLits
  simp only [undCell]
  rw [if_pos ⟨by kernel_rfl, by kernel_rfl⟩]
  have hf : (Tryz.prog.fieldsOf 30).toList.map (fun f => (f.type, f.offset)) = [(28, 0), (28, 2)] := by kernel_rfl
  have hc : Tryz.prog.cellsOf 28 = 2 := by kernel_rfl
  generalize (Tryz.prog.fieldsOf 30).toList = fs at hf
  obtain ⟨f0, fs, rfl⟩ : ∃ f0 r, fs = f0 :: r := by cases fs with | nil => simp at hf | cons a l => exact ⟨a, l, rfl⟩
  obtain ⟨f1, fs, rfl⟩ : ∃ f0 r, fs = f0 :: r := by cases fs with | nil => simp at hf | cons a l => exact ⟨a, l, rfl⟩
  obtain rfl : fs = [] := by cases fs with | nil => rfl | cons a l => simp at hf
  simp only [List.map_cons, List.map_nil, List.cons.injEq, Prod.mk.injEq, and_true] at hf
  obtain ⟨⟨t0, o0⟩, t1, o1⟩ := hf
  rw [List.mapM_cons, List.mapM_cons, List.mapM_nil, t0, o0, t1, o1, hc]
  simp [keyLits_id d h1 h2, keyLits_id d h3 h4]
theorem key_inj {a b : Ad} (ha : a.ok) (hb : b.ok) (h : a.key = b.key) : a = b := by
  have h1 := key_eq a ha
  have h2 := key_eq b hb
  rw [← h] at h2
  have := cell_law.inj h1 h2
  simp only [Ad.val, Value.agg.injEq, Array.mk.injEq, List.cons.injEq, Value.int.injEq, true_and, and_true] at this
  obtain ⟨ra, rn, ca, cn⟩ := a
  obtain ⟨ra', rn', ca', cn'⟩ := b
  obtain ⟨rfl, rfl, rfl, rfl⟩ := this
  rfl

/-- how an element reads: as it is. -/
def heldR : Value → Option (DataW Value × List MemPlace)
  | .agg cs => if cs.size = 29 ∧ cs.all (·.oneCell') = true then some (.held (.agg cs), []) else none
  | _ => none
theorem heldR_inv {v : Value} {d : DataW Value} {ps : List MemPlace} (h : heldR v = some (d, ps)) : ∃ cs : Array Value, v = .agg cs ∧ cs.size = 29 ∧ cs.all (·.oneCell') = true ∧ d = .held (.agg cs) := by
  unfold heldR at h
  split at h
  · split at h
    · rename_i cs hc
      simp only [Option.some.injEq, Prod.mk.injEq] at h
      exact ⟨cs, rfl, hc.1, hc.2, h.1.symm⟩
    · cases h
  · cases h
theorem heldR_cont (x : Ct) (A : Option Addr) (c : Nat) : heldR (contV x A c) = some (.held (contV x A c), []) := by
  unfold heldR
  exact if_pos ⟨rfl, cont_one x A c⟩
theorem undMp : Tryz.prog.underlying 60 = some (.map 30 43) := by kernel_rfl
/-- a store at block p, its map block m: of at most n cells, as D. -/
def StAt (W : World) (p : Nat) (m : Option Nat) (n : Nat) (D : DataW Value) : Prop :=
  W.heap[p]? = some (.cells #[.map m] 62) ∧ match m with | none => D = .map [] | some b => W.ownsMap Tryz.prog 30 heldR b n D
/-- all but the store's block, and its map, stays. -/
structure KeepP (p : Nat) (m : Option Nat) (w w' : World) : Prop where
  os : w'.os = w.os
  tape : w'.tape = w.tape
  output : w'.output = w.output
  size : w.heap.size ≤ w'.heap.size
  block : ∀ k, k < w.heap.size → k ≠ p → m ≠ some k → w'.heap[k]? = w.heap[k]?
theorem KeepP.of_below {p : Nat} {m : Option Nat} {w w' : World} (h : Below w.heap.size w w') : KeepP p m w w' := ⟨h.os, h.tape, h.output, h.size, fun k hk _ _ => h.block k hk⟩
theorem KeepP.below {p : Nat} {m : Option Nat} {w w' : World} (h : KeepP p m w w') {B : Nat} (hp : B ≤ p) (hm : ∀ b, m = some b → B ≤ b) (hB : B ≤ w.heap.size) : Below B w w' :=
  ⟨h.os, h.tape, h.output, h.size, fun k hk => h.block k (by omega) (by omega) (fun e => by have := hm k e; omega)⟩
theorem StAt.below {W W' : World} {p : Nat} {m : Option Nat} {n : Nat} {D : DataW Value} (h : StAt W p m n D) (hb : Below W.heap.size W W') : StAt W' p m n D := by
  obtain ⟨h1, h2⟩ := h
  refine ⟨(hb.block p (Array.getElem?_eq_some_iff.1 h1).1).trans h1, ?_⟩
  cases m with
  | none => exact h2
  | some b =>
    obtain ⟨es, clock, e1, e2⟩ := h2
    exact ⟨es, clock, (hb.block b (Array.getElem?_eq_some_iff.1 e1).1).trans e1, e2⟩
def sizeD (D : DataW Value) : Nat := Maps.size D

set_option maxRecDepth 100000 in
theorem len_c (w : World) (p : Nat) (m : Option Nat) (n : Nat) (D : DataW Value) (h : StAt w p m n D) :
    Calls Tryz.prog 16 #[.pointer (some ⟨p, 0, none⟩)] w fun e w' => e = .returned (.int .i64 (Maps.size D)) ∧ Below w.heap.size w w' := by
  have hc : w.cell? ⟨p, 0, none⟩ = some (.map m) := cell_of_row _ _ 0 _ _ _ h.1
  have h2 := h.2
  clear h
  cases m with
  | none =>
    obtain rfl : D = .map [] := h2
    have hl := fun wx : World => Maps.len_nil (w := wx) undMp 3
    go_enter Tryz.func16, Tryz.ntmps16
    go_wp2
    go_ret
    exact ⟨rfl, Below.refl _ _⟩
  | some b =>
    have ho : w.ownsMap Tryz.prog 30 heldR b n D := h2
    have HO := Lib.hid ho
    clear h2 ho
    go_enter Tryz.func16, Tryz.ntmps16
    go_wp2_with (at_len; refine wpList_len_own _ rfl _ 60 rfl 30 43 undMp heldR b n D rfl HO.out ?_)
    go_ret
    exact ⟨rfl, Below.refl _ _⟩
end Go.Proofs.YtelombedjkbckaaGreatDoor
