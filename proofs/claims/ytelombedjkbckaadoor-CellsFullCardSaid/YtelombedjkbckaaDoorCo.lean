/- tree.codeOfId, codeOfCorner, sized. -/
import Derived.Test.YtelombedjkbckaaDoorRr
import Derived.Test.YtelombedjkbckaaDoorShelf
import Derived.Deep.RegionHeld3
import Derived.Lib.ItoaLen
namespace Go.Proofs.YtelombedjkbckaaDoor
open Go.RowKit Go.Shelf

abbrev S (l : List UInt8) : Value := .string ⟨l.toArray⟩
theorem ret_str {a b : List UInt8} (h : a = b) : Ending.returned (S a) = .returned (S b) := by rw [h]
/-- the library's table of powers of ten is as the program's text lays it. -/
def Tab (w : World) : Prop := Lib.TabIs Tryd.prog w "internal/strconv.uint64pow10" .u64 Lib.pow10Tab
theorem gPow : Tryd.prog.globalNamed "internal/strconv.uint64pow10" = some 0 := by kernel_rfl
theorem tab_lt {w : World} (h : Tab w) : 0 < w.heap.size := by
  unfold Tab Lib.TabIs World.var? at h
  rw [gPow, Option.bind_some] at h
  apply Classical.byContradiction
  intro hn
  rw [Array.getElem?_eq_none (by omega)] at h
  cases h
theorem tab_below {w w' : World} (h : Tab w) (hb : Below w.heap.size w w') : Tab w' := var?_below hb gPow (tab_lt h) h
theorem tab_alloc {w : World} (h : Tab w) (o : Obj) : Tab (w.alloc o) := tab_below h ((Below.refl _ _).alloc (Nat.le_refl _) o)
theorem below_grow (w : World) (k : Nat) (os : Array Obj) : Below w.heap.size w (Sort.grow (w.drewN k) os) := by
  refine ⟨rfl, rfl, rfl, by simp [Sort.grow], fun i hi => ?_⟩
  show (w.heap ++ os)[i]? = _
  rw [Array.getElem?_append_left hi]
theorem itoa_any (n : Int) (w : World) (h : i64 n) (ht : Tab w) :
    Calls Tryd.prog 48 #[.int .i64 n] w fun e w' => e = .returned (S (Lib.itoa n)) ∧ Below w.heap.size w w' :=
  (Tryd.strconv_Itoa n h.1 h.2 w ht).mono fun _ _ ⟨he, k, os, hw⟩ => ⟨he, by rw [hw]; exact below_grow w k os⟩
theorem itoa_le (n : Int) (h : i64 n) : (Lib.itoa n).length ≤ 21 := by have := Lib.itoa_length_le n h.1 h.2; omega

def idL (a n : Int) : List UInt8 := Lib.itoa a ++ [46] ++ Lib.itoa n
theorem id_le (a n : Int) (h : i64 a) (h' : i64 n) : (idL a n).length ≤ 43 := by
  have := itoa_le a h; have := itoa_le n h'; unfold idL; simp; omega

theorem keep2 {W w1 w2 : World} {g : Nat} {v0 v1 : Value} (hg : g < W.heap.size) (h : w1.cell? ⟨g, 0, none⟩ = some v0 ∧ w1.cell? ⟨g, 1, none⟩ = some v1 ∧ Below W.heap.size W w1) (hb : Below w1.heap.size w1 w2) :
    w2.cell? ⟨g, 0, none⟩ = some v0 ∧ w2.cell? ⟨g, 1, none⟩ = some v1 ∧ Below W.heap.size W w2 := by
  obtain ⟨h0, h1, h4⟩ := h
  have hlt : g < w1.heap.size := Nat.lt_of_lt_of_le hg h4.size
  exact ⟨(hb.cell (p := ⟨g, 0, none⟩) hlt).trans h0, (hb.cell (p := ⟨g, 1, none⟩) hlt).trans h1, h4.trans (hb.mono h4.size)⟩

set_option maxRecDepth 100000 in
set_option maxHeartbeats 1000000 in
theorem codeOfId_any (a n : Int) (ha : i64 a) (hn : i64 n) (w : World) (ht : Tab w) :
    Calls Tryd.prog 61 #[.agg #[.int .i64 a, .int .i64 n]] w fun e w' => e = .returned (S (idL a n)) ∧ Below w.heap.size w w' := by
  have l1 := itoa_le a ha
  have l2 := itoa_le n hn
  have HT2 := Lib.hid (tab_alloc ht (.cells #[.int .i64 a, .int .i64 n] 27))
  unfold idL
  have hIA := fun w (h : Tab w) => itoa_any a w ha h
  have hIN := fun w (h : Tab w) => itoa_any n w hn h
  generalize Lib.itoa a = la at *
  generalize Lib.itoa n = ln at *
  have HIA := Lib.hid hIA
  have HIN := Lib.hid hIN
  clear hIA hIN ht ha hn
  go_enter Tryd.func61, Tryd.ntmps61
  go_wp2_with fail
  generalize hW : w.alloc (.cells #[.int .i64 a, .int .i64 n] 27) = W at HT2 ⊢
  have k0 : W.cell? ⟨w.heap.size, 0, none⟩ = some (.int .i64 a) := by rw [← hW]; simp
  have k1 : W.cell? ⟨w.heap.size, 1, none⟩ = some (.int .i64 n) := by rw [← hW]; simp
  have HW := Lib.hid hW
  clear hW
  have hgW : w.heap.size < W.heap.size := by rw [← HW.out]; simp
  have hBW := Lib.hid (show Below w.heap.size w W by rw [← HW.out]; exact (Below.refl _ _).alloc (Nat.le_refl _) _)
  have hb0 : Below W.heap.size W W.drew := (Below.refl _ _).drew
  have n1 : ¬ 9223372036854775807 < la.length + 1 := by omega
  have n2 : ¬ 9223372036854775807 < la.length + 1 + ln.length := by omega
  go_region_held3 (fun w' => w'.cell? ⟨w.heap.size, 0, none⟩ = some (.int .i64 a) ∧ w'.cell? ⟨w.heap.size, 1, none⟩ = some (.int .i64 n) ∧ Below W.heap.size W w') (first | exact ⟨k0, k1, hb0⟩ | assumption | exact keep2 hgW (by assumption) (by assumption))
    (first | (go_at_call_of 48 a; refine (HIA.out _ (tab_below HT2.out (And.right (And.right (by assumption))))).mono ?_; rintro e w' ⟨rfl, hb⟩) | (go_at_call_of 48 n; refine (HIN.out _ (tab_below HT2.out (And.right (And.right (by assumption))))).mono ?_; rintro e w' ⟨rfl, hb⟩))
  all_goals
    go_wp2
    go_ret
    refine ⟨ret_str (by simp), hBW.out.trans (Below.mono ?_ hBW.out.size)⟩
    rename_i hS
    exact hS.2.2
end Go.Proofs.YtelombedjkbckaaDoor
