/- script: number, rightHead, rightText. -/
import Derived.Test.YtlgfjacjcacmmaaGreatDoorJdM
namespace Go.Proofs.YtlgfjacjcacmmaaGreatDoor
set_option linter.unusedSimpArgs false
set_option linter.unusedVariables false
open Go Go.RowKit Go.Shelf

/-- the library's two errors. -/
def ErrS (w : World) : Prop := (∃ ev, w.cell? ⟨1, 0, none⟩ = some ev ∧ (ev = .nilIface ∨ ∃ te pe, ev = .iface te pe)) ∧ (∃ ev, w.cell? ⟨2, 0, none⟩ = some ev ∧ (ev = .nilIface ∨ ∃ te pe, ev = .iface te pe))
theorem ErrS.below {w w' : World} (h : ErrS w) (hb : Below w.heap.size w w') : ErrS w' := by
  obtain ⟨⟨e1, h1, k1⟩, ⟨e2, h2, k2⟩⟩ := h
  exact ⟨⟨e1, (hb.cell (p := ⟨1, 0, none⟩) (World.block_lt_of_cell? w _ h1)).trans h1, k1⟩, ⟨e2, (hb.cell (p := ⟨2, 0, none⟩) (World.block_lt_of_cell? w _ h2)).trans h2, k2⟩⟩
theorem number_ok (s : ByteArray) (hs : s.size ≤ 1048576) (v : Int) (h : Lib.atoiAll s.data.toList = .ok v) (w : World) :
    Calls Tryz.prog 46 #[.string s] w fun e w' => e = .returned (.tuple #[.int .i64 v, .nilIface]) ∧ Below w.heap.size w w' := by
  refine (Tryz.strconv_Atoi_ok s (by omega) v h w).mono ?_
  rintro e w' ⟨rfl, rfl | ⟨t, rfl⟩⟩
  · exact ⟨rfl, Below.refl _ _⟩
  · exact ⟨rfl, Lib.bytesWorld_below _ _ _⟩
theorem number_no (s : ByteArray) (hs : s.size ≤ 1048576) (h : ∀ v, Lib.atoiAll s.data.toList ≠ .ok v) (w : World) (he : ErrS w) :
    Calls Tryz.prog 46 #[.string s] w fun e w' => ∃ n T N, e = .returned (.tuple #[.int .i64 n, .iface T (.pointer (some ⟨N, 0, none⟩))]) ∧ Below w.heap.size w w' := by
  obtain ⟨⟨e1, h1, k1⟩, ⟨e2, h2, k2⟩⟩ := he
  cases ha : Lib.atoiAll s.data.toList with
  | ok v => exact absurd ha (h v)
  | range =>
    refine (Any.strconv_Atoi_range Tryz.laysC172 s (by omega) ha e2 w h2 k2).mono ?_
    rintro e w' ⟨N, rfl, _, _, hb⟩
    exact ⟨_, _, N, rfl, hb⟩
  | _ =>
    refine (Any.strconv_Atoi_syntax Tryz.laysC172 s (by omega) ha e1 w h1 k1).mono ?_
    rintro e w' ⟨N, rfl, _, _, hb⟩
    exact ⟨_, _, N, rfl, hb⟩
set_option maxRecDepth 100000 in
set_option maxHeartbeats 2000000 in
theorem number_c (s : ByteArray) (hs : s.size ≤ 1048576) (w : World) (he : ErrS w) :
    Calls Tryz.prog 34 #[.string s] w fun e w' => e = .returned (.int .i64 (numP s.data.toList)) ∧ Below w.heap.size w w' := by
  by_cases h : ∃ v, Lib.atoiAll s.data.toList = .ok v
  · obtain ⟨v, hv⟩ := h
    have hn : numP s.data.toList = v := by unfold numP; rw [hv]
    rw [hn]
    have HC := Lib.hid (number_ok s hs v hv w)
    clear hv hn he
    go_enter Tryz.func34, Tryz.ntmps34
    go_wp2_with (go_at_call 46; refine HC.out.mono ?_; rintro e w' ⟨rfl, hb⟩)
    go_ret
    exact ⟨rfl, hb⟩
  · have hv : ∀ v, Lib.atoiAll s.data.toList ≠ .ok v := fun v hv => h ⟨v, hv⟩
    have hn : numP s.data.toList = -1 := by
      unfold numP
      cases hx : Lib.atoiAll s.data.toList with
      | ok v => exact absurd hx (hv v)
      | _ => rfl
    rw [hn]
    have HC := Lib.hid (number_no s hs hv w he)
    clear hv hn he h
    go_enter Tryz.func34, Tryz.ntmps34
    go_wp2_with (go_at_call 46; refine HC.out.mono ?_; rintro e w' ⟨n, T, N, rfl, hb⟩)
    go_ret
    exact ⟨rfl, hb⟩

set_option maxRecDepth 100000 in
set_option maxHeartbeats 2000000 in
theorem rightHead_c (s : Scr) (A : Option Addr) (n c : Nat) (w : World) :
    Calls Tryz.prog 30 #[.agg #[.int .i64 s.rows, .int .i64 s.cols, .int .i64 s.wr, .slice A n c]] w fun e w' => e = .returned (.bool (headB s)) ∧ Below w.heap.size w w' := by
  have h1 := fun w => within_c s.rows 1 50 w
  have h2 := fun w => within_c s.cols 1 50 w
  have h3 := fun w => within_c s.wr 1 4 w
  have hr : headB s = ((decide (1 ≤ s.rows) && decide (s.rows ≤ 50)) && (decide (1 ≤ s.cols) && decide (s.cols ≤ 50)) && (decide (1 ≤ s.wr) && decide (s.wr ≤ 4))) := by unfold headB; simp only [Bool.decide_and]
  rw [hr]
  clear hr
  generalize (decide (1 ≤ s.rows) && decide (s.rows ≤ 50)) = b1 at *
  generalize (decide (1 ≤ s.cols) && decide (s.cols ≤ 50)) = b2 at *
  generalize (decide (1 ≤ s.wr) && decide (s.wr ≤ 4)) = b3 at *
  have H1 := Lib.hid h1
  have H2 := Lib.hid h2
  have H3 := Lib.hid h3
  obtain ⟨r, co, ws, st⟩ := s
  dsimp only at *
  clear h1 h2 h3
  cases b1 <;> cases b2 <;> cases b3 <;>
  · go_enter Tryz.func30, Tryz.ntmps30
    go_wp2_with (first | (go_at_call_of 41 r; refine (H1.out _).mono ?_; rintro e w' ⟨rfl, rfl⟩) | (go_at_call_of 41 co; refine (H2.out _).mono ?_; rintro e w' ⟨rfl, rfl⟩) | (go_at_call_of 41 ws; refine (H3.out _).mono ?_; rintro e w' ⟨rfl, rfl⟩))
    go_ret
    exact ⟨rfl, (Below.refl _ w).alloc (Nat.le_refl _) _⟩

theorem contains_one (c : UInt8) (l : List UInt8) : Lib.contains l [c] = l.contains c := by
  unfold Lib.contains
  induction l with
  | nil => rfl
  | cons b l ih =>
    by_cases h : b = c
    · subst h; rw [index_same]; simp
    · have h' : ¬ c = b := fun e => h e.symm
      rw [index_next h]
      have hg := Lib.index_ge l [c]
      simp only [List.contains_cons, beq_eq_false_iff_ne.2 h', Bool.false_or]
      rw [← ih]
      by_cases hm : Lib.index l [c] = -1
      · rw [hm]; rfl
      · rw [if_neg (by simpa using hm)]
        rw [decide_eq_true (p := (0 : Int) ≤ Lib.index l [c]) (by omega), decide_eq_true (by omega)]
set_option maxRecDepth 100000 in
set_option maxHeartbeats 2000000 in
theorem rightText_c (s : ByteArray) (hs : s.size ≤ 9223372036854775807) (w : World) :
    Calls Tryz.prog 42 #[.string s] w fun e w' => e = .returned (.bool (lineB s)) ∧ w = w' := by
  have hC : ∀ w, Calls Tryz.prog 52 #[.string s, .string ⟨#[10]⟩] w fun e w' => e = .returned (.bool (s.data.toList.contains 10)) ∧ w = w' := fun w => (Tryz.strings_Contains_one s 10 w).mono fun _ _ h => ⟨by rw [h.1, ← contains_one]; unfold Lib.contains; rw [index_byte], h.2.symm⟩
  have HC := Lib.hid hC
  unfold lineB
  have hsz : (s.size : Int) ≤ 9223372036854775807 := by omega
  generalize s.data.toList.contains 10 = b at *
  clear hC
  by_cases h : s.size ≤ 255
  · rw [decide_eq_true h]
    have q : (s.size : Int) ≤ 255 := by omega
    cases b
    · go_enter Tryz.func42, Tryz.ntmps42
      go_wp2_with (go_at_call 52; refine (HC.out _).mono ?_; rintro e w' ⟨rfl, rfl⟩)
      go_ret
      exact ⟨rfl, rfl⟩
    · go_enter Tryz.func42, Tryz.ntmps42
      go_wp2_with (go_at_call 52; refine (HC.out _).mono ?_; rintro e w' ⟨rfl, rfl⟩)
      go_ret
      exact ⟨rfl, rfl⟩
  · rw [decide_eq_false h]
    have q : ¬ (s.size : Int) ≤ 255 := by omega
    go_enter Tryz.func42, Tryz.ntmps42
    go_wp2
    go_ret
    exact ⟨rfl, rfl⟩
end Go.Proofs.YtlgfjacjcacmmaaGreatDoor
