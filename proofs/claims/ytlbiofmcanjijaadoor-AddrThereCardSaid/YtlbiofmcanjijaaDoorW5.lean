/- The walks of seen, Relative and Text. -/
import Derived.Test.YtlbiofmcanjijaaDoorW4
import Derived.Deep.RegionHeld3
namespace Go.Proofs.YtlbiofmcanjijaaDoor
open Go.RowKit
open Ad

/-- the library's table of powers of ten is as the program's text lays it. -/
def Tab (w : World) : Prop := Lib.TabIs Tryd.prog w "internal/strconv.uint64pow10" .u64 Lib.pow10Tab
theorem tab_lt {w : World} (h : Tab w) : 1 < w.heap.size := by
  unfold Tab Lib.TabIs World.var? at h
  rw [show Tryd.prog.globalNamed "internal/strconv.uint64pow10" = some 1 by kernel_rfl, Option.bind_some] at h
  apply Classical.byContradiction
  intro hn
  rw [Array.getElem?_eq_none (by omega)] at h
  cases h
theorem tab_below {w w' : World} (h : Tab w) (hb : Below w.heap.size w w') : Tab w' :=
  var?_below hb (show Tryd.prog.globalNamed "internal/strconv.uint64pow10" = some 1 by kernel_rfl) (tab_lt h) h
theorem tab_alloc {w : World} (h : Tab w) (o : Obj) : Tab (w.alloc o) := tab_below h ((Below.refl _ _).alloc (Nat.le_refl _) o)
theorem below_grow (w : World) (k : Nat) (os : Array Obj) : Below w.heap.size w (Sort.grow (w.drewN k) os) := by
  refine ⟨rfl, rfl, rfl, by simp [Sort.grow], fun i hi => ?_⟩
  show (w.heap ++ os)[i]? = _
  rw [Array.getElem?_append_left hi]

theorem itoa_any (n : Int) (w : World) (h0 : -9223372036854775808 ≤ n) (h1 : n ≤ 9223372036854775807) (ht : Tab w) :
    Calls Tryd.prog 28 #[.int .i64 n] w fun e w' => e = .returned (S (Lib.itoa n)) ∧ Below w.heap.size w w' :=
  (Tryd.strconv_Itoa n h0 h1 w ht).mono fun _ _ ⟨he, k, os, hw⟩ => ⟨he, by rw [hw]; exact below_grow w k os⟩

def seenL (p f : Int) (fx : Bool) : List UInt8 := if fx then Lib.itoa (p + 1) else if p = f then [] else [91] ++ Lib.itoa (p - f) ++ [93]
theorem seen_len (p f : Int) (fx : Bool) (h0 : 0 ≤ p) (h1 : p ≤ 9999998) (h2 : 0 ≤ f) (h3 : f ≤ 9999998) : (seenL p f fx).length ≤ 23 := by
  unfold seenL
  split
  · have := Lib.itoa_length_le (p + 1) (by omega) (by omega); omega
  · split
    · simp
    · have := Lib.itoa_length_le (p - f) (by omega) (by omega); simp; omega

set_option maxHeartbeats 1000000 in
theorem seen_any (p f : Int) (fx : Bool) (w : World) (h0 : 0 ≤ p) (h1 : p ≤ 9999998) (h2 : 0 ≤ f) (h3 : f ≤ 9999998) (ht : Tab w) :
    Calls Tryd.prog 26 #[.int .i64 p, .int .i64 f, .bool fx] w fun e w' => e = .returned (S (seenL p f fx)) ∧ Below w.heap.size w w' := by
  unfold seenL
  have HT := Lib.hid ht
  clear ht
  cases fx
  · by_cases hpf : p = f
    · subst hpf
      have hb : ((p : Int) == p) = true := by simp
      simp only [if_true, if_false, Bool.false_eq_true]
      go_enter Tryd.func26, Tryd.ntmps26
      go_wp2_with fail
      go_ret
      exact ⟨rfl, Below.refl _ _⟩
    · have hb : ((p : Int) == f) = false := by simp; omega
      simp only [hpf, if_false, Bool.false_eq_true]
      go_enter Tryd.func26, Tryd.ntmps26
      go_wp2_with fail
      refine (itoa_any _ _ (by omega) (by omega) HT.out).mono ?_
      rintro e w' ⟨rfl, hb1⟩
      have hl := Lib.itoa_length_le (p - f) (by omega) (by omega)
      generalize hx : Lib.itoa (p - f) = l at hl ⊢
      have Hx := Lib.hid hx
      clear hx
      go_wp2_with fail
      go_ret
      exact ⟨ret_str (by rw [Hx.out]; simp), hb1⟩
  · simp only [if_true]
    go_enter Tryd.func26, Tryd.ntmps26
    go_wp2_with fail
    refine (itoa_any _ _ (by omega) (by omega) HT.out).mono ?_
    rintro e w' ⟨rfl, hb1⟩
    go_wp2_with fail
    go_ret
    exact ⟨rfl, hb1⟩

structure Mk where
  row : Int
  col : Int
  fr : Bool
  fc : Bool
abbrev Mk.v (m : Mk) : Value := .agg #[.int .i64 m.row, .int .i64 m.col, .bool m.fr, .bool m.fc]
def relL (m : Mk) (r c : Int) : List UInt8 :=
  if rightB m.row m.col && rightB r c then [82] ++ seenL m.row r m.fr ++ [67] ++ seenL m.col c m.fc else []

theorem right_bd {r c : Int} (h : rightB r c = true) : 0 ≤ r ∧ r ≤ 9999998 ∧ 0 ≤ c ∧ c ≤ 18277 := by
  unfold rightB at h; simp at h; omega

theorem keep4 {W w1 w2 : World} {g : Nat} {v0 v1 v2 v3 : Value} (hg : g < W.heap.size)
    (h : w1.cell? ⟨g, 0, none⟩ = some v0 ∧ w1.cell? ⟨g, 1, none⟩ = some v1 ∧ w1.cell? ⟨g, 2, none⟩ = some v2 ∧ w1.cell? ⟨g, 3, none⟩ = some v3 ∧ Below W.heap.size W w1) (hb : Below w1.heap.size w1 w2) :
    w2.cell? ⟨g, 0, none⟩ = some v0 ∧ w2.cell? ⟨g, 1, none⟩ = some v1 ∧ w2.cell? ⟨g, 2, none⟩ = some v2 ∧ w2.cell? ⟨g, 3, none⟩ = some v3 ∧ Below W.heap.size W w2 := by
  obtain ⟨h0, h1, h2, h3, h4⟩ := h
  have hlt : g < w1.heap.size := Nat.lt_of_lt_of_le hg h4.size
  exact ⟨(hb.cell (p := ⟨g, 0, none⟩) hlt).trans h0, (hb.cell (p := ⟨g, 1, none⟩) hlt).trans h1, (hb.cell (p := ⟨g, 2, none⟩) hlt).trans h2, (hb.cell (p := ⟨g, 3, none⟩) hlt).trans h3, h4.trans (hb.mono h4.size)⟩

set_option maxHeartbeats 1000000 in
theorem relative_any (mr mc : Int) (fr fc : Bool) (r c : Int) (w : World) (ht : Tab w) :
    Calls Tryd.prog 14 #[.agg #[.int .i64 mr, .int .i64 mc, .bool fr, .bool fc], .int .i64 r, .int .i64 c] w fun e w' => e = .returned (S (relL ⟨mr, mc, fr, fc⟩ r c)) ∧ Below w.heap.size w w' := by
  unfold relL
  have HT := Lib.hid ht
  clear ht
  by_cases g1 : rightB mr mc = true
  · by_cases g2 : rightB r c = true
    · obtain ⟨a1, a2, a3, a4⟩ := right_bd g1
      obtain ⟨c1, c2, c3, c4⟩ := right_bd g2
      simp only [g1, g2, Bool.and_self, if_true]
      go_enter Tryd.func14, Tryd.ntmps14
      go_wp2_with (go_at_call 23; refine (right_any _ _ _).mono ?_; rintro e w' ⟨rfl, rfl⟩)
      have l1 := seen_len mr r fr a1 a2 c1 c2
      have l2 := seen_len mc c fc a3 (by omega) c3 (by omega)
      have HT2 := Lib.hid (tab_alloc HT.out (.cells #[.int .i64 mr, .int .i64 mc, .bool fr, .bool fc] 28))
      generalize hW : w.alloc (.cells #[.int .i64 mr, .int .i64 mc, .bool fr, .bool fc] 28) = W at HT2 ⊢
      have k0 : W.cell? ⟨w.heap.size, 0, none⟩ = some (.int .i64 mr) := by rw [← hW]; simp
      have k1 : W.cell? ⟨w.heap.size, 1, none⟩ = some (.int .i64 mc) := by rw [← hW]; simp
      have k2 : W.cell? ⟨w.heap.size, 2, none⟩ = some (.bool fr) := by rw [← hW]; simp
      have k3 : W.cell? ⟨w.heap.size, 3, none⟩ = some (.bool fc) := by rw [← hW]; simp
      have HW := Lib.hid hW
      clear hW
      have hgW : w.heap.size < W.heap.size := by rw [← HW.out]; simp
      have hBW := Lib.hid (show Below w.heap.size w W by rw [← HW.out]; exact (Below.refl _ _).alloc (Nat.le_refl _) _)
      have hb0 : Below W.heap.size W W.drew := (Below.refl _ _).drew
      have n1 : ¬ 9223372036854775807 < 1 + (seenL mr r fr).length := by omega
      have n2 : ¬ 9223372036854775807 < 1 + (seenL mr r fr).length + 1 := by omega
      have n3 : ¬ 9223372036854775807 < 1 + (seenL mr r fr).length + 1 + (seenL mc c fc).length := by omega
      go_region_held3 (fun w' => w'.cell? ⟨w.heap.size, 0, none⟩ = some (.int .i64 mr) ∧ w'.cell? ⟨w.heap.size, 1, none⟩ = some (.int .i64 mc) ∧ w'.cell? ⟨w.heap.size, 2, none⟩ = some (.bool fr) ∧ w'.cell? ⟨w.heap.size, 3, none⟩ = some (.bool fc) ∧ Below W.heap.size W w') (first | exact ⟨k0, k1, k2, k3, hb0⟩ | assumption | exact keep4 hgW (by assumption) (by assumption))
        (first | (go_at_call 26; refine (seen_any _ _ _ _ (by omega) (by omega) (by omega) (by omega) (tab_below HT2.out (And.right (And.right (And.right (And.right (by assumption))))))).mono ?_; rintro e w' ⟨rfl, hb⟩))
      have hh := Lib.hid (And.right (And.right (And.right (And.right ‹w'.cell? ⟨w.heap.size, 0, none⟩ = some (.int .i64 mr) ∧ w'.cell? ⟨w.heap.size, 1, none⟩ = some (.int .i64 mc) ∧ w'.cell? ⟨w.heap.size, 2, none⟩ = some (.bool fr) ∧ w'.cell? ⟨w.heap.size, 3, none⟩ = some (.bool fc) ∧ Below W.heap.size W w'›))))
      go_wp2
      go_ret
      exact ⟨ret_str (by simp), hBW.out.trans (hh.out.mono (by omega))⟩
    · have g2' : rightB r c = false := by simpa using g2
      clear g2
      simp only [g1, g2', Bool.and_false, if_false, Bool.false_eq_true]
      go_enter Tryd.func14, Tryd.ntmps14
      go_wp2_with (go_at_call 23; refine (right_any _ _ _).mono ?_; rintro e w' ⟨rfl, rfl⟩)
      go_ret
      exact ⟨rfl, (Below.refl _ _).alloc (Nat.le_refl _) _⟩
  · have g1' : rightB mr mc = false := by simpa using g1
    clear g1
    simp only [g1', Bool.false_and, if_false, Bool.false_eq_true]
    go_enter Tryd.func14, Tryd.ntmps14
    go_wp2_with (go_at_call 23; refine (right_any _ _ _).mono ?_; rintro e w' ⟨rfl, rfl⟩)
    go_ret
    exact ⟨rfl, (Below.refl _ _).alloc (Nat.le_refl _) _⟩
end Go.Proofs.YtlbiofmcanjijaaDoor
