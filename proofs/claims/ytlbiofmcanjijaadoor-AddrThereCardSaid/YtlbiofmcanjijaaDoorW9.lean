/- The walks of Text, and of the reference's Right, Text and Parse; of. -/
import Derived.Test.YtlbiofmcanjijaaDoorW7
namespace Go.Proofs.YtlbiofmcanjijaaDoor
open Go.RowKit
open Ad

def dol (b : Bool) : List UInt8 := if b then [36] else []
theorem dol_len (b : Bool) : (dol b).length ≤ 1 := by cases b <;> decide
theorem dol_any (b : Bool) (w : World) : Calls Tryd.prog 27 #[.bool b] w fun e w' => e = .returned (S (dol b)) ∧ w = w' := dollar_any b w
def textL (m : Mk) : List UInt8 := if rightB m.row m.col then dol m.fc ++ lets m.col ++ dol m.fr ++ Lib.itoa (m.row + 1) else []

theorem keep4d {W w1 : World} {g : Nat} {v0 v1 v2 v3 : Value}
    (h : w1.cell? ⟨g, 0, none⟩ = some v0 ∧ w1.cell? ⟨g, 1, none⟩ = some v1 ∧ w1.cell? ⟨g, 2, none⟩ = some v2 ∧ w1.cell? ⟨g, 3, none⟩ = some v3 ∧ Below W.heap.size W w1) :
    Below W.heap.size W w1 := h.2.2.2.2

set_option maxHeartbeats 2000000 in
theorem text_any (mr mc : Int) (fr fc : Bool) (w : World) (ht : Tab w) :
    Calls Tryd.prog 15 #[.agg #[.int .i64 mr, .int .i64 mc, .bool fr, .bool fc]] w fun e w' => e = .returned (S (textL ⟨mr, mc, fr, fc⟩)) ∧ Below w.heap.size w w' := by
  unfold textL
  have HT := Lib.hid ht
  clear ht
  by_cases g1 : rightB mr mc = true
  · obtain ⟨a1, a2, a3, a4⟩ := right_bd g1
    simp only [g1, if_true]
    go_enter Tryd.func15, Tryd.ntmps15
    go_wp2_with (go_at_call 23; refine (right_any _ _ _).mono ?_; rintro e w' ⟨rfl, rfl⟩)
    have l1 := dol_len fc
    have l2 := lets_len mc
    have l3 := dol_len fr
    have l4 := Lib.itoa_length_le (mr + 1) (by omega) (by omega)
    have HT2 := Lib.hid (tab_alloc HT.out (.cells #[.int .i64 mr, .int .i64 mc, .bool fr, .bool fc] 28))
    generalize hW : w.alloc (.cells #[.int .i64 mr, .int .i64 mc, .bool fr, .bool fc] 28) = W at HT2 ⊢
    have k0 : W.cell? ⟨w.heap.size, 0, none⟩ = some (.int .i64 mr) := by rw [← hW]; simp
    have k1 : W.cell? ⟨w.heap.size, 1, none⟩ = some (.int .i64 mc) := by rw [← hW]; simp
    have k2 : W.cell? ⟨w.heap.size, 2, none⟩ = some (.bool fr) := by rw [← hW]; simp
    have k3 : W.cell? ⟨w.heap.size, 3, none⟩ = some (.bool fc) := by rw [← hW]; simp
    have HW := Lib.hid hW
    clear hW
    have hgW : w.heap.size < W.heap.size := by rw [← HW.out]; simp
    have hBW := Lib.hid (show Below w.heap.size w W by rw [← HW.out]; exact (Below.refl _ _).alloc (Nat.le_refl _) _)
    have hb0 : Below W.heap.size W W.drew := (Below.refl _ _).drew
    have n1 : ¬ 9223372036854775807 < (dol fc).length + (lets mc).length := by omega
    have n2 : ¬ 9223372036854775807 < (dol fc).length + (lets mc).length + (dol fr).length := by omega
    have n3 : ¬ 9223372036854775807 < (dol fc).length + (lets mc).length + (dol fr).length + (Lib.itoa (mr + 1)).length := by omega
    have e1 : IntKind.i64.wrap (mr + 1) = mr + 1 := IntWalk.i64_in _ (by omega)
    go_region_held3 (fun w' => w'.cell? ⟨w.heap.size, 0, none⟩ = some (.int .i64 mr) ∧ w'.cell? ⟨w.heap.size, 1, none⟩ = some (.int .i64 mc) ∧ w'.cell? ⟨w.heap.size, 2, none⟩ = some (.bool fr) ∧ w'.cell? ⟨w.heap.size, 3, none⟩ = some (.bool fc) ∧ Below W.heap.size W w') (first | exact ⟨k0, k1, k2, k3, hb0⟩ | assumption | exact keep4 hgW (by assumption) (by assumption))
      (first | (go_at_call 27; refine (dol_any _ _).mono ?_; rintro e w' ⟨rfl, rfl⟩) | (go_at_call 10; refine (letters_any _ _ (by omega) (by omega)).mono ?_; rintro e w' ⟨rfl, hb⟩) | (go_at_call 28; refine (itoa_any _ _ (by omega) (by omega) (tab_below HT2.out (keep4d (by assumption)))).mono ?_; rintro e w' ⟨rfl, hb⟩))
    have hh := Lib.hid (And.right (And.right (And.right (And.right ‹w'.cell? ⟨w.heap.size, 0, none⟩ = some (.int .i64 mr) ∧ w'.cell? ⟨w.heap.size, 1, none⟩ = some (.int .i64 mc) ∧ w'.cell? ⟨w.heap.size, 2, none⟩ = some (.bool fr) ∧ w'.cell? ⟨w.heap.size, 3, none⟩ = some (.bool fc) ∧ Below W.heap.size W w'›))))
    clear e1
    go_wp2
    go_ret
    exact ⟨ret_str (by simp), hBW.out.trans (hh.out.mono (by omega))⟩
  · have g1' : rightB mr mc = false := by simpa using g1
    clear g1
    simp only [g1', if_false, Bool.false_eq_true]
    go_enter Tryd.func15, Tryd.ntmps15
    go_wp2_with (go_at_call 23; refine (right_any _ _ _).mono ?_; rintro e w' ⟨rfl, rfl⟩)
    go_ret
    exact ⟨rfl, (Below.refl _ _).alloc (Nat.le_refl _) _⟩

set_option maxHeartbeats 1000000 in
theorem refRight_any (r c : Int) (fr fc : Bool) (w : World) :
    Calls Tryd.prog 32 #[.agg #[.int .i64 r, .int .i64 c, .bool fr, .bool fc]] w fun e w' => e = .returned (.bool (rightB r c)) ∧ Below w.heap.size w w' := by
  unfold rightB
  by_cases h1 : 0 ≤ r <;> by_cases h2 : r ≤ 9999998 <;> by_cases h3 : 0 ≤ c <;> by_cases h4 : c ≤ 18277 <;> (try (exfalso; omega)) <;> simp only [h1, h2, h3, h4]
  all_goals
    go_enter Tryd.func32, Tryd.ntmps32
    go_wp2
    go_ret
    exact ⟨rfl, (Below.refl _ _).alloc (Nat.le_refl _) _⟩

set_option maxHeartbeats 1000000 in
theorem of_any (r c : Int) (fr fc : Bool) (w : World) :
    Calls Tryd.prog 19 #[.agg #[.int .i64 r, .int .i64 c, .bool fr, .bool fc]] w fun e w' => e = .returned (.agg #[.int .i64 r, .int .i64 c, .bool fr, .bool fc]) ∧ Below w.heap.size w w' := by
  go_enter Tryd.func19, Tryd.ntmps19
  go_wp2
  refine bodyPost_ret (v := .agg #[.int .i64 r, .int .i64 c, .bool fr, .bool fc]) (by simp [results, Tryd.results19, go_sem]) rfl ⟨rfl, ?_⟩
  exact ((Below.refl _ _).alloc (Nat.le_refl _) _).alloc (by simp) _

set_option maxHeartbeats 1000000 in
theorem refText_any (mr mc : Int) (fr fc : Bool) (w : World) :
    Calls Tryd.prog 18 #[.agg #[.int .i64 mr, .int .i64 mc, .bool fr, .bool fc]] w fun e w' => e = .returned (S (textL ⟨mr, mc, fr, fc⟩)) ∧ Below w.heap.size w w' := by
  unfold textL
  by_cases g1 : rightB mr mc = true
  · obtain ⟨a1, a2, a3, a4⟩ := right_bd g1
    simp only [g1, if_true]
    have hit := Lib.hid (show Lib.itoa (mr + 1) = Lib.decDigits (mr + 1).toNat by unfold Lib.itoa; rw [if_neg (by omega)])
    have l2 := lets_len mc
    cases fr <;> cases fc
    all_goals
      go_enter Tryd.func18, Tryd.ntmps18
      go_wp2_with fail
      refine (refRight_any _ _ _ _ _).mono ?_
      rintro e w1 ⟨rfl, hb1⟩
      rw [g1]
      have HB1 := Lib.hid (((Below.refl w.heap.size w).alloc (Nat.le_refl _) _).trans (hb1.mono (by simp)))
      have B1 := Lib.hid ((Blk.new w 35 #[.int .i64 mr, .int .i64 mc, .bool _, .bool _]).below hb1 (by simp))
      clear hb1
      obtain ⟨⟨x0, x1, x2, x3⟩, y0, y1, y2, y3⟩ := B1.out.four
      go_wp2_with fail
      refine (refLetters_any _ _).mono ?_
      rintro e w2 ⟨rfl, rfl⟩
      go_wp2_with fail
      refine (numS_any (mr + 1).toNat (mr + 1) _ (by omega) (by omega) (by omega)).mono ?_
      rintro e w3 ⟨rfl, rfl⟩
      rw [← hit.out]
      have l4 := Lib.itoa_length_le (mr + 1) (by omega) (by omega)
      go_wp2_with fail
      go_ret
      exact ⟨ret_str (by simp [dol]), HB1.out⟩
  · have g1' : rightB mr mc = false := by simpa using g1
    clear g1
    simp only [g1', if_false, Bool.false_eq_true]
    go_enter Tryd.func18, Tryd.ntmps18
    go_wp2_with fail
    refine (refRight_any _ _ _ _ _).mono ?_
    rintro e w1 ⟨rfl, hb1⟩
    rw [g1']
    have HB1 := Lib.hid (((Below.refl w.heap.size w).alloc (Nat.le_refl _) _).trans (hb1.mono (by simp)))
    clear hb1
    go_wp2_with fail
    go_ret
    exact ⟨rfl, HB1.out⟩
end Go.Proofs.YtlbiofmcanjijaaDoor
