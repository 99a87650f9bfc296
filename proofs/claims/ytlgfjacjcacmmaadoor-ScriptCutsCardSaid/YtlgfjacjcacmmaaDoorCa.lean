/- The library's Itoa, its table. -/
import Derived.Test.YtlgfjacjcacmmaaDoorRr
import Derived.Test.YtlgfjacjcacmmaaDoorShelf
import Derived.Deep.RegionHeld3
import Derived.Lib.ItoaLen
namespace Go.Proofs.YtlgfjacjcacmmaaDoor
open Go.RowKit Go.Shelf

abbrev S (l : List UInt8) : Value := .string ⟨l.toArray⟩
theorem ret_str {a b : List UInt8} (h : a = b) : Ending.returned (S a) = .returned (S b) := by rw [h]
/-- the library's table of powers of ten is as the program's text lays it. -/
def Tab (w : World) : Prop := Lib.TabIs Tryd.prog w "internal/strconv.uint64pow10" .u64 Lib.pow10Tab
theorem gPow : Tryd.prog.globalNamed "internal/strconv.uint64pow10" = some 1 := by kernel_rfl
theorem tab_lt {w : World} (h : Tab w) : 1 < w.heap.size := by
  unfold Tab Lib.TabIs World.var? at h
  rw [gPow, Option.bind_some] at h
  apply Classical.byContradiction
  intro hn
  rw [Array.getElem?_eq_none (by omega)] at h
  cases h
theorem tab_below {w w' : World} (h : Tab w) (hb : Below w.heap.size w w') : Tab w' := var?_below hb gPow (tab_lt h) h
theorem tab_alloc {w : World} (h : Tab w) (o : Obj) : Tab (w.alloc o) := tab_below h ((Below.refl _ _).alloc (Nat.le_refl _) o)
theorem below_grow (w : World) (k : Nat) (os : Array Obj) : Below w.heap.size w (Sort.grow (w.drewN k) os) := by
  refine ⟨rfl, rfl, rfl, by simp [Sort.grow], fun i hi => ?_⟩
  show (w.heap ++ os)[i]? = _
  rw [Array.getElem?_append_left hi]
theorem itoa_any (n : Int) (w : World) (h : i64 n) (ht : Tab w) :
    Calls Tryd.prog 24 #[.int .i64 n] w fun e w' => e = .returned (S (Lib.itoa n)) ∧ Below w.heap.size w w' :=
  (Tryd.strconv_Itoa n h.1 h.2 w ht).mono fun _ _ ⟨he, k, os, hw⟩ => ⟨he, by rw [hw]; exact below_grow w k os⟩
theorem itoa_le (n : Int) (h : i64 n) : (Lib.itoa n).length ≤ 21 := by have := Lib.itoa_length_le n h.1 h.2; omega

end Go.Proofs.YtlgfjacjcacmmaaDoor
