/- A call of a tree, in memory (for the walk of TreeParts). -/
import Derived.Test.YtggpffipijoddaaDoorPpM
import Derived.Test.YtggpffipijoddaaDoorNoM
import Derived.Great.CaseRows
namespace Go.Proofs.YtggpffipijoddaaDoor
open Go.RowKit Go.Shelf

theorem call_row {w W : World} {A : Option Addr} {c : Nat} {t : Tr} {T : TypeId} {fr : Nat × Nat} (hd : t.d.ok) (hs : SlAt w w.heap.size A c t.l) (hx : Below w.heap.size w W) {b : Nat} (hb : W.heap[b]? = some (.cells (nodeA t.d A t.l.length c) T fr)) : SlAt W W.heap.size (some ⟨b, 0, none⟩) 1 (callT t).l := by
  have hlt : b < W.heap.size := (Array.getElem?_eq_some_iff.1 hb).1
  refine ⟨by simp [callT, Tr.l], by decide, .inr ⟨b, 0, rfl, ?_⟩⟩
  simp only [callT, Tr.l, KidsAt, and_true]
  refine NodeAt.mk hlt hd (fun j hj => ?_) ((hs.below hx).more hx.size)
  rw [Nat.zero_add, Lib.cell_of_heap hb]
theorem call_calls {w W : World} {A : Option Addr} {c : Nat} {t : Tr} {T : TypeId} {fr : Nat × Nat} (hd : t.d.ok) (hs : SlAt w w.heap.size A c t.l) (hx : Below w.heap.size w W) (hz : t.size ≤ 1048576) (hsh : Short t) (ht : Tab W) {b : Nat} (hb : W.heap[b]? = some (.cells (nodeA t.d A t.l.length c) T fr)) :
    Calls Tryd.prog 11 #[.agg #[.int .i64 4, .int .i64 0, .int .i64 0, .int .i64 0, .string ⟨#[]⟩, .bool false, .int .i64 0, .string ⟨#[70]⟩, .int .i64 0, .int .i64 0, .int .i64 0, .int .i64 0, .bool false, .bool false, .int .i64 0, .int .i64 0, .int .i64 0, .int .i64 0, .bool false, .bool false, .int .i64 0, .slice (some ⟨b, 0, none⟩) 1 1]] W fun e w' => e = .returned (.tuple #[S (codeT (callT t)), .int .i64 (checkI (callT t))]) ∧ Below W.heap.size W w' :=
  code_c W W.heap.size (Nat.le_refl _) (callT t) (some ⟨b, 0, none⟩) 1 (call_ok t) (call_row hd hs hx hb) (by rw [call_size]; omega) (call_short hsh) ht
theorem call_text {t : Tr} (_h : checkI t = 0) : codeT (callT t) = if checkI (callT t) = 0 then [67, 49, 58, 70, 44, 49, 59] ++ codeL t else [] := by
  unfold codeT; rw [call_code]
theorem call_in {w w4 : World} {A : Option Addr} {c : Nat} {t : Tr} {N : Array Value} (hN : N = nodeA t.d A t.l.length c) (hd : t.d.ok) (hs : SlAt w w.heap.size A c t.l) (hx : Below w.heap.size w w4) (hz : t.size ≤ 1048576) (hsh : Short t) (ht : Tab w4) (o2 : Obj) :
    Calls Tryd.prog 11 #[.agg #[.int .i64 4, .int .i64 0, .int .i64 0, .int .i64 0, .string ⟨#[]⟩, .bool false, .int .i64 0, .string ⟨#[70]⟩, .int .i64 0, .int .i64 0, .int .i64 0, .int .i64 0, .bool false, .bool false, .int .i64 0, .int .i64 0, .int .i64 0, .int .i64 0, .bool false, .bool false, .int .i64 0, .slice (some ⟨w4.heap.size, 0, none⟩) 1 1]] ((w4.alloc (.cells N 34)).alloc o2) fun e w' => e = .returned (.tuple #[S (codeT (callT t)), .int .i64 (checkI (callT t))]) ∧ Below w4.heap.size w4 w' := by
  refine (call_calls (T := 34) (fr := (0, 0)) hd hs ((hx.alloc hx.size _).alloc (by have := hx.size; simp; omega) _) hz hsh (tab_alloc (tab_alloc ht _) _) ?_).mono ?_
  · rw [← hN]
    exact (((Below.refl _ (w4.alloc (.cells N 34))).alloc (Nat.le_refl _) o2).block w4.heap.size (by simp)).trans (heap_alloc_new _ _)
  · rintro e w' ⟨rfl, hb⟩
    exact ⟨rfl, (((Below.refl _ w4).alloc (Nat.le_refl _) _).alloc (by simp) _).trans (hb.mono (by simp; omega))⟩
theorem zeroN : ((Tryd.prog.info? 34).bind (·.zero)).isSome = true := by kernel_rfl
/-- a list of one node is laid down. -/
theorem wpList_oneNode {ops : Array Oper} {rest : List Oper} {o : Oper} {a : Act} {w : World} {Q : Exit → Act → World → Prop} (hg : o.guard = none) (i : Nat) (ho : o.op = .buildSlice 32 1 #[(0, .tmp i)]) (N : Array Value) (hev : a.eval (.tmp i) = .agg N) (hn : N.size = 22)
    (h : wpList Tryd.prog ops Q rest (a.put o.dst (.slice (some ⟨w.heap.size, 0, none⟩) 1 1)) (w.alloc (.cells N 34))) : wpList Tryd.prog ops Q (o :: rest) a w := by
  refine Great.wpList_buildRows hg 32 34 #[(0, .tmp i)] 22 [.agg N] ho (fun _ => i) w.heap.size rfl o.dst rfl undNs infN zeroN (by decide) (by simp) (by simp) rfl (fun v hv => ?_) (fun j hj => ?_) ?_
  · simp only [List.mem_singleton] at hv; subst hv; exact hn
  · simp only [List.length_singleton, Nat.lt_one_iff] at hj; subst hj; exact hev
  · have e : ([Value.agg N].flatMap fun v => v.cells.toList).toArray = N := by simp [Value.cells]
    rw [e]; exact h
theorem call_facts {t : Tr} (h : checkI t = 0) : (255 < t.size → checkI (callT t) = 5 ∧ codeT (callT t) = []) ∧ (¬ 255 < t.size → 31 < t.depth → checkI (callT t) = 8 ∧ codeT (callT t) = []) ∧ (¬ 255 < t.size → ¬ 31 < t.depth → checkI (callT t) = 0 ∧ codeT (callT t) = [67, 49, 58, 70, 44, 49, 59] ++ codeL t) := by
  have e := call_check h
  have f := call_text h
  refine ⟨fun h1 => ?_, fun h1 h2 => ?_, fun h1 h2 => ?_⟩
  · rw [if_pos h1] at e; rw [e] at f ⊢; exact ⟨rfl, f⟩
  · rw [if_neg h1, if_pos h2] at e; rw [e] at f ⊢; exact ⟨rfl, f⟩
  · rw [if_neg h1, if_neg h2] at e; rw [e] at f ⊢; exact ⟨rfl, f⟩
theorem ba_suffix {cd hdc acc : List UInt8} (h : cd = hdc ++ acc) : ((ByteArray.mk cd.toArray).extract (cd.length - acc.length) cd.length).data.toList = acc := by
  subst h
  have e := Lib.extract_to_end (ByteArray.mk (hdc ++ acc).toArray) ((hdc ++ acc).length - acc.length)
  have e2 : (ByteArray.mk (hdc ++ acc).toArray).size = (hdc ++ acc).length := by simp [ByteArray.size]
  rw [e2] at e
  rw [e]
  simp
theorem ba_suffix2 {cd hdc acc : List UInt8} (h : cd = hdc ++ acc) : (((ByteArray.mk cd.toArray).extract (cd.length - acc.length) cd.length).toList == acc) = true := by
  rw [ByteArray.toList_eq, ba_suffix h]; simp
end Go.Proofs.YtggpffipijoddaaDoor
