/- tree.codeOfValue. -/
import Derived.Test.YtelombedjkbckaaDoorCp
namespace Go.Proofs.YtelombedjkbckaaDoor
open Go.RowKit Go.Shelf

def valL (v : Vl) : List UInt8 :=
  if v.k = 1 then [78] ++ Lib.itoa v.mant ++ [101] ++ Lib.itoa v.exp
  else if v.k = 2 then [83] ++ sizedL v.text.data.toList
  else if v.k = 3 then (if v.truth then [84] else [70])
  else [69] ++ Lib.itoa v.fault

theorem keepv {W w1 w2 : World} {g : Nat} {v1 v2 : Value} (hg : g < W.heap.size) (h : w1.cell? ⟨g, 1, none⟩ = some v1 ∧ w1.cell? ⟨g, 2, none⟩ = some v2 ∧ Below W.heap.size W w1) (hb : Below w1.heap.size w1 w2) :
    w2.cell? ⟨g, 1, none⟩ = some v1 ∧ w2.cell? ⟨g, 2, none⟩ = some v2 ∧ Below W.heap.size W w2 := by
  obtain ⟨h0, h1, h4⟩ := h
  have hlt : g < w1.heap.size := Nat.lt_of_lt_of_le hg h4.size
  exact ⟨(hb.cell (p := ⟨g, 1, none⟩) hlt).trans h0, (hb.cell (p := ⟨g, 2, none⟩) hlt).trans h1, h4.trans (hb.mono h4.size)⟩

set_option maxRecDepth 100000 in
set_option maxHeartbeats 2000000 in
theorem codeOfValue1 (m x f : Int) (s : ByteArray) (b : Bool) (hm : i64 m) (hx : i64 x) (w : World) (ht : Tab w) :
    Calls Tryd.prog 45 #[.agg #[.int .i64 1, .int .i64 m, .int .i64 x, .string s, .bool b, .int .i64 f]] w fun e w' => e = .returned (S ([78] ++ Lib.itoa m ++ [101] ++ Lib.itoa x)) ∧ Below w.heap.size w w' := by
  have l1 := itoa_le m hm
  have l2 := itoa_le x hx
  have HT2 := Lib.hid (tab_alloc ht (.cells #[.int .i64 1, .int .i64 m, .int .i64 x, .string s, .bool b, .int .i64 f] 25))
  have hIA := fun w (h : Tab w) => itoa_any m w hm h
  have hIN := fun w (h : Tab w) => itoa_any x w hx h
  generalize Lib.itoa m = la at *
  generalize Lib.itoa x = ln at *
  have HIA := Lib.hid hIA
  have HIN := Lib.hid hIN
  clear hIA hIN ht hm hx
  go_enter Tryd.func45, Tryd.ntmps45
  go_wp2_with fail
  generalize hW : w.alloc (.cells _ 25) = W at HT2 ⊢
  have k0 : W.cell? ⟨w.heap.size, 1, none⟩ = some (.int .i64 m) := by rw [← hW]; simp
  have k1 : W.cell? ⟨w.heap.size, 2, none⟩ = some (.int .i64 x) := by rw [← hW]; simp
  have HW := Lib.hid hW
  clear hW
  have hgW : w.heap.size < W.heap.size := by rw [← HW.out]; simp
  have hBW := Lib.hid (show Below w.heap.size w W by rw [← HW.out]; exact (Below.refl _ _).alloc (Nat.le_refl _) _)
  have hb0 : Below W.heap.size W W.drew := (Below.refl _ _).drew
  have n1 : ¬ 9223372036854775807 < 1 + la.length := by omega
  have n2 : ¬ 9223372036854775807 < 1 + la.length + 1 := by omega
  have n3 : ¬ 9223372036854775807 < 1 + la.length + 1 + ln.length := by omega
  go_region_held3 (fun w' => w'.cell? ⟨w.heap.size, 1, none⟩ = some (.int .i64 m) ∧ w'.cell? ⟨w.heap.size, 2, none⟩ = some (.int .i64 x) ∧ Below W.heap.size W w') (first | exact ⟨k0, k1, hb0⟩ | assumption | exact keepv hgW (by assumption) (by assumption))
    (first | (go_at_call_of 48 m; refine (HIA.out _ (tab_below HT2.out (And.right (And.right (by assumption))))).mono ?_; rintro e w' ⟨rfl, hb⟩) | (go_at_call_of 48 x; refine (HIN.out _ (tab_below HT2.out (And.right (And.right (by assumption))))).mono ?_; rintro e w' ⟨rfl, hb⟩))
  all_goals
    go_wp2
    go_ret
    refine ⟨ret_str (by simp), hBW.out.trans (Below.mono ?_ hBW.out.size)⟩
    rename_i hS
    exact hS.2.2

set_option maxRecDepth 100000 in
set_option maxHeartbeats 2000000 in
theorem codeOfValue_any (v : Vl) (hv : v.ok) (hs : v.text.size ≤ 9223372036854000000) (w : World) (ht : Tab w) :
    Calls Tryd.prog 45 #[.agg #[.int .i64 v.k, .int .i64 v.mant, .int .i64 v.exp, .string v.text, .bool v.truth, .int .i64 v.fault]] w fun e w' => e = .returned (S (valL v)) ∧ Below w.heap.size w w' := by
  obtain ⟨k, m, x, s, b, f⟩ := v
  obtain ⟨_, hm, hx, _, hf⟩ := hv
  dsimp only at hs hm hx hf ⊢
  unfold valL
  dsimp only
  by_cases h1 : k = 1
  · subst h1
    exact codeOfValue1 m x f s b hm hx w ht
  rw [if_neg h1]
  have hBW : Below w.heap.size w (w.alloc (.cells #[.int .i64 k, .int .i64 m, .int .i64 x, .string s, .bool b, .int .i64 f] 25)) := (Below.refl _ _).alloc (Nat.le_refl _) _
  have htW := tab_below ht hBW
  by_cases h2 : k = 2
  · subst h2
    rw [if_pos rfl]
    have hI := sized_any s (by omega) _ htW
    have hl : (sizedL s.data.toList).length ≤ s.size + 22 := by
      have := itoa_le (s.data.toList.length : Int) (by unfold i64; simp; omega)
      have h3 : s.data.toList.length = s.size := by simp
      unfold sizedL; simp only [List.length_append, List.length_singleton]; omega
    generalize sizedL s.data.toList = l at *
    have HI := Lib.hid hI
    have HB := Lib.hid hBW
    have n1 : ¬ 9223372036854775807 < 1 + l.length := by omega
    clear hI hBW htW ht hm hx hf h1
    go_enter Tryd.func45, Tryd.ntmps45
    go_wp2_with (go_at_call 47; refine HI.out.mono ?_; rintro e w' ⟨rfl, hb⟩)
    go_ret
    exact ⟨ret_str (by simp), HB.out.trans (hb.mono HB.out.size)⟩
  rw [if_neg h2]
  by_cases h3 : k = 3
  · subst h3
    rw [if_pos rfl]
    have HB := Lib.hid hBW
    clear hBW htW ht hm hx hf h1 h2
    cases b
    all_goals
      go_enter Tryd.func45, Tryd.ntmps45
      go_wp2
      go_ret
      exact ⟨rfl, HB.out⟩
  rw [if_neg h3]
  have hI := itoa_any f _ hf htW
  have l1 := itoa_le f hf
  generalize Lib.itoa f = l at *
  have HI := Lib.hid hI
  have HB := Lib.hid hBW
  have n1 : ¬ 9223372036854775807 < 1 + l.length := by omega
  clear hI hBW htW ht hm hx hf
  go_enter Tryd.func45, Tryd.ntmps45
  go_wp2_with (go_at_call 48; refine HI.out.mono ?_; rintro e w' ⟨rfl, hb⟩)
  go_ret
  exact ⟨ret_str (by simp), HB.out.trans (hb.mono HB.out.size)⟩
end Go.Proofs.YtelombedjkbckaaDoor
