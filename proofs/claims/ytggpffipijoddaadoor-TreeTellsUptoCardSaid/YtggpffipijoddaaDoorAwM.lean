/- law 06's example: awake. -/
import Derived.Test.YtggpffipijoddaaDoorBuCx
namespace Go.Proofs.YtggpffipijoddaaDoor
open Go.RowKit Go.Shelf

def zV : Vl := ⟨0, 0, 0, ByteArray.mk #[], false, 0⟩
def zC : Cn := ⟨0, 0, 0, 0, false, false⟩
def awD : ND := ⟨0, zV, ByteArray.mk #[], zC, zC, 0⟩
def exLit : Tr := .mk { awD with v := ⟨1, 1, 0, ByteArray.mk #[], false, 0⟩ } []
def exOne : Tr := .mk { awD with kind := 1, a := ⟨0, 1, 0, 1, false, false⟩ } []
def exTree : Tr := .mk { awD with kind := 6, name := ByteArray.mk #[43] } [exLit, exOne]
def exText : List UInt8 := [66, 43, 59, 78, 49, 101, 48, 59, 79, 48, 46, 49, 44, 48, 46, 49, 44, 48, 59]
theorem zC_ok : zC.ok := by unfold Cn.ok zC i64; decide
theorem ex_check : checkI exTree = 0 := by decide +kernel
theorem ex_code : codeL exTree = exText := by decide +kernel
theorem ex_short : Short exTree := by
  intro x hx
  simp only [exTree, exLit, exOne, Tr.nodes, Tr.nodess, List.append_nil, List.cons_append, List.nil_append, List.mem_cons, List.not_mem_nil, or_false] at hx
  rcases hx with rfl | rfl | rfl <;> decide
theorem ex_ok : exTree.d.ok ∧ exLit.d.ok ∧ exOne.d.ok := by
  refine ⟨?_, ?_, ?_⟩ <;> (unfold ND.ok Vl.ok Cn.ok i64; decide +kernel)

theorem omega_no {k : Nat} {C : Prop} (h : k + 22 < 22) : C := by omega
theorem ex_row {W : World} {b : Nat} (hb : W.heap[b]? = some (.cells #[.int .i64 0, .int .i64 1, .int .i64 1, .int .i64 0, .string ⟨#[]⟩, .bool false, .int .i64 0, .string ⟨#[]⟩, .int .i64 0, .int .i64 0, .int .i64 0, .int .i64 0, .bool false, .bool false, .int .i64 0, .int .i64 0, .int .i64 0, .int .i64 0, .bool false, .bool false, .int .i64 0, .slice none 0 0, .int .i64 1, .int .i64 0, .int .i64 0, .int .i64 0, .string ⟨#[]⟩, .bool false, .int .i64 0, .string ⟨#[]⟩, .int .i64 0, .int .i64 1, .int .i64 0, .int .i64 1, .bool false, .bool false, .int .i64 0, .int .i64 0, .int .i64 0, .int .i64 0, .bool false, .bool false, .int .i64 0, .slice none 0 0] 34)) : SlAt W W.heap.size (some ⟨b, 0, none⟩) 2 exTree.l := by
  have hlt : b < W.heap.size := (Array.getElem?_eq_some_iff.1 hb).1
  have hcell : ∀ j, W.cell? ⟨b, j, none⟩ = (#[.int .i64 0, .int .i64 1, .int .i64 1, .int .i64 0, .string ⟨#[]⟩, .bool false, .int .i64 0, .string ⟨#[]⟩, .int .i64 0, .int .i64 0, .int .i64 0, .int .i64 0, .bool false, .bool false, .int .i64 0, .int .i64 0, .int .i64 0, .int .i64 0, .bool false, .bool false, .int .i64 0, .slice none 0 0, .int .i64 1, .int .i64 0, .int .i64 0, .int .i64 0, .string ⟨#[]⟩, .bool false, .int .i64 0, .string ⟨#[]⟩, .int .i64 0, .int .i64 1, .int .i64 0, .int .i64 1, .bool false, .bool false, .int .i64 0, .int .i64 0, .int .i64 0, .int .i64 0, .bool false, .bool false, .int .i64 0, .slice none 0 0] : Array Value)[j]? := fun j => by simp only [World.cell?, hb]; rfl
  refine ⟨by decide, by decide, .inr ⟨b, 0, rfl, ?_⟩⟩
  simp only [exTree, Tr.l, KidsAt, and_true]
  refine ⟨NodeAt.mk (A := none) (c := 0) hlt ex_ok.2.1 (fun j hj => ?_) ⟨by decide, by decide, .inl rfl⟩, NodeAt.mk (A := none) (c := 0) hlt ex_ok.2.2 (fun j hj => ?_) ⟨by decide, by decide, .inl rfl⟩⟩
  · rw [hcell]
    match j, hj with
    | 0, _ => rfl
    | 1, _ => rfl
    | 2, _ => rfl
    | 3, _ => rfl
    | 4, _ => rfl
    | 5, _ => rfl
    | 6, _ => rfl
    | 7, _ => rfl
    | 8, _ => rfl
    | 9, _ => rfl
    | 10, _ => rfl
    | 11, _ => rfl
    | 12, _ => rfl
    | 13, _ => rfl
    | 14, _ => rfl
    | 15, _ => rfl
    | 16, _ => rfl
    | 17, _ => rfl
    | 18, _ => rfl
    | 19, _ => rfl
    | 20, _ => rfl
    | 21, _ => rfl
    | k + 22, h => exact omega_no h
  · rw [hcell]
    match j, hj with
    | 0, _ => rfl
    | 1, _ => rfl
    | 2, _ => rfl
    | 3, _ => rfl
    | 4, _ => rfl
    | 5, _ => rfl
    | 6, _ => rfl
    | 7, _ => rfl
    | 8, _ => rfl
    | 9, _ => rfl
    | 10, _ => rfl
    | 11, _ => rfl
    | 12, _ => rfl
    | 13, _ => rfl
    | 14, _ => rfl
    | 15, _ => rfl
    | 16, _ => rfl
    | 17, _ => rfl
    | 18, _ => rfl
    | 19, _ => rfl
    | 20, _ => rfl
    | 21, _ => rfl
    | k + 22, h => exact omega_no h
theorem ex_calls (W : World) (b : Nat) (hb : W.heap[b]? = some (.cells #[.int .i64 0, .int .i64 1, .int .i64 1, .int .i64 0, .string ⟨#[]⟩, .bool false, .int .i64 0, .string ⟨#[]⟩, .int .i64 0, .int .i64 0, .int .i64 0, .int .i64 0, .bool false, .bool false, .int .i64 0, .int .i64 0, .int .i64 0, .int .i64 0, .bool false, .bool false, .int .i64 0, .slice none 0 0, .int .i64 1, .int .i64 0, .int .i64 0, .int .i64 0, .string ⟨#[]⟩, .bool false, .int .i64 0, .string ⟨#[]⟩, .int .i64 0, .int .i64 1, .int .i64 0, .int .i64 1, .bool false, .bool false, .int .i64 0, .int .i64 0, .int .i64 0, .int .i64 0, .bool false, .bool false, .int .i64 0, .slice none 0 0] 34)) (ht : Tab W) :
    Calls Tryd.prog 11 #[.agg #[.int .i64 6, .int .i64 0, .int .i64 0, .int .i64 0, .string ⟨#[]⟩, .bool false, .int .i64 0, .string ⟨#[43]⟩, .int .i64 0, .int .i64 0, .int .i64 0, .int .i64 0, .bool false, .bool false, .int .i64 0, .int .i64 0, .int .i64 0, .int .i64 0, .bool false, .bool false, .int .i64 0, .slice (some ⟨b, 0, none⟩) 2 2]] W fun e w' => e = .returned (.tuple #[S exText, .int .i64 0]) ∧ Below W.heap.size W w' := by
  have := code_good W W.heap.size (Nat.le_refl _) exTree (some ⟨b, 0, none⟩) 2 ex_ok.1 (ex_row hb) (by decide +kernel) ex_check ex_short ht
  rw [ex_code] at this
  exact this

set_option maxRecDepth 100000 in
set_option maxHeartbeats 2000000 in
theorem awake_c (w : World) (ht : Tab w) : Calls Tryd.prog 8 #[] w fun e w' => e = .returned (.bool true) ∧ Below w.heap.size w w' := by
  have HT := Lib.hid ht
  clear ht
  go_enter Tryd.func8, Tryd.ntmps8
  go_wp2_with (fail)
  refine (ex_calls _ (w.heap.size + 1) ?_ ?_).mono ?_
  · exact (congrArg (fun k => ((w.alloc (.cells #[.int .i64 0, .int .i64 1] 27)).alloc _).heap[k]?) (World.size_alloc w _).symm).trans (heap_alloc_new _ _)
  · exact tab_alloc (tab_alloc HT.out _) _
  rintro e w2 ⟨rfl, hb2⟩
  have hq : exText.toArray = #[66, 43, 59, 78, 49, 101, 48, 59, 79, 48, 46, 49, 44, 48, 46, 49, 44, 48, 59] := rfl
  go_wp2
  go_ret
  exact ⟨rfl, (((Below.refl _ w).alloc (Nat.le_refl _) _).alloc (by simp) _).trans (hb2.mono (by simp <;> omega))⟩
end Go.Proofs.YtggpffipijoddaaDoor
