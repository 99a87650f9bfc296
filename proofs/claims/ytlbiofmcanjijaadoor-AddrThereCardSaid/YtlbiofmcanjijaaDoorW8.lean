/- The walks of the laws AddrLetters and AddrMoves. -/
import Derived.Test.YtlbiofmcanjijaaDoorW7
namespace Go.Proofs.YtlbiofmcanjijaaDoor
open Go.RowKit
open Ad

set_option maxHeartbeats 1000000 in
theorem addrLetters_walk (c : Int) (s : ByteArray) (w : World) (ht : Tab w) (c0 : -9223372036854775808 ≤ c) (c1 : c ≤ 9223372036854775807) (hs : s.size ≤ 9223372036854775807) :
    Calls Tryd.prog 3 #[.int .i64 c, .string s] w fun e w' => e = .returned (.bool true) ∧ Below w.heap.size w w' := by
  have HT := Lib.hid ht
  clear ht
  go_enter Tryd.func3, Tryd.ntmps3
  go_wp2_with fail
  refine (awake_any _ HT.out).mono ?_
  rintro e w1 ⟨rfl, hb1⟩
  have HB1 := Lib.hid hb1
  clear hb1
  by_cases h100 : 100 < s.size
  · go_wp2_with fail
    go_ret
    exact ⟨rfl, HB1.out⟩
  go_wp2_with fail
  refine (letters_any _ _ c0 c1).mono ?_
  rintro e w2 ⟨rfl, hb2⟩
  have HB2 := Lib.hid (HB1.out.trans (hb2.mono HB1.out.size))
  clear hb2
  go_wp2_with fail
  refine (column_any _ _ hs).mono ?_
  rintro e w3 ⟨rfl, hb3⟩
  have HB3 := Lib.hid (HB2.out.trans (hb3.mono HB2.out.size))
  clear hb3
  go_wp2_with fail
  refine (refColumn_any _ _ hs).mono ?_
  rintro e w4 ⟨rfl, rfl⟩
  go_wp2_with fail
  refine (refLetters_any _ _).mono ?_
  rintro e w5 ⟨rfl, rfl⟩
  generalize (col s.data.toList).getD 0 = n
  generalize (col s.data.toList).isSome = b
  by_cases hc : c < 0 ∨ 18277 < c
  · have hl := (lets_nil c).2 hc
    rw [hl]
    clear hl
    by_cases hn : c < 0
    · clear hc
      go_wp2_with fail
      go_ret
      exact ⟨rfl, HB3.out⟩
    · have hg : 18277 < c := by omega
      clear hc hn
      have hn : ¬ c < 0 := by omega
      go_wp2_with fail
      go_ret
      exact ⟨rfl, HB3.out⟩
  · have hcl := Lib.hid (col_lets c (by omega) (by omega))
    have hne : (lets c).isEmpty = false := by have := lets_ne c (by omega) (by omega); simpa using this
    have hlen := lets_len c
    generalize lets c = l at *
    clear hc
    go_wp2_with fail
    refine (column_any _ _ (by show l.toArray.size ≤ _; simp; omega)).mono ?_
    rintro e w6 ⟨rfl, hb6⟩
    have HB6 := Lib.hid (HB3.out.trans (hb6.mono HB3.out.size))
    clear hb6
    rw [show (ByteArray.mk l.toArray).data.toList = l by simp, hcl.out]
    simp only [Option.getD_some, Option.isSome_some]
    go_wp2_with fail
    go_ret
    exact ⟨ret_bool (by simp), HB6.out⟩

theorem rel_nil (m : Mk) (r c : Int) (h : relL m r c ≠ []) : rightB m.row m.col = true ∧ rightB r c = true := by
  unfold relL at h
  by_cases g : (rightB m.row m.col && rightB r c) = true
  · simpa using g
  · rw [if_neg g] at h; exact absurd rfl h
theorem seen_moved (p f d : Int) : seenL (p + d) (f + d) false = seenL p f false := by
  unfold seenL
  simp only [Bool.false_eq_true, if_false]
  by_cases h : p = f
  · rw [if_pos h, if_pos (by omega)]
  · rw [if_neg h, if_neg (by omega), show p + d - (f + d) = p - f by omega]
theorem wrap_in (a d : Int) (h0 : 0 ≤ a) (h1 : a ≤ 9999998) (h2 : -1000000 ≤ d) (h3 : d ≤ 1000000) : wrap64 (a + d) = a + d := IntWalk.wrap64_in _ ⟨by omega, by omega⟩
theorem moves_plain (mr mc r c dn rt : Int) (fr fc : Bool) (h2 : -1000000 ≤ dn) (h3 : dn ≤ 1000000) (h4 : -1000000 ≤ rt) (h5 : rt ≤ 1000000) :
    relL ⟨mr, mc, fr, fc⟩ r c = [] ∨ relL ⟨if fr then mr else wrap64 (mr + dn), if fc then mc else wrap64 (mc + rt), fr, fc⟩ (wrap64 (r + dn)) (wrap64 (c + rt)) = [] ∨
    relL ⟨mr, mc, fr, fc⟩ r c = relL ⟨if fr then mr else wrap64 (mr + dn), if fc then mc else wrap64 (mc + rt), fr, fc⟩ (wrap64 (r + dn)) (wrap64 (c + rt)) := by
  by_cases e1 : relL ⟨mr, mc, fr, fc⟩ r c = []
  · exact .inl e1
  by_cases e2 : relL ⟨if fr then mr else wrap64 (mr + dn), if fc then mc else wrap64 (mc + rt), fr, fc⟩ (wrap64 (r + dn)) (wrap64 (c + rt)) = []
  · exact .inr (.inl e2)
  refine .inr (.inr ?_)
  obtain ⟨g1, g2⟩ := rel_nil _ _ _ e1
  obtain ⟨g3, g4⟩ := rel_nil _ _ _ e2
  obtain ⟨a1, a2, a3, a4⟩ := right_bd g1
  obtain ⟨b1, b2, b3, b4⟩ := right_bd g2
  unfold relL
  rw [if_pos (by rw [g1, g2]; rfl), if_pos (by rw [g3, g4]; rfl)]
  simp only at a1 a2 a3 a4
  rw [wrap_in r dn b1 b2 h2 h3, wrap_in c rt b3 (by omega) h4 h5, wrap_in mr dn a1 a2 h2 h3, wrap_in mc rt a3 (by omega) h4 h5]
  have s1 : seenL (if fr then mr else mr + dn) (r + dn) fr = seenL mr r fr := by
    cases fr
    · exact seen_moved mr r dn
    · simp [seenL]
  have s2 : seenL (if fc then mc else mc + rt) (c + rt) fc = seenL mc c fc := by
    cases fc
    · exact seen_moved mc c rt
    · simp [seenL]
  rw [s1, s2]

set_option maxRecDepth 100000 in
set_option maxHeartbeats 2000000 in
theorem addrMoves_walk (mr mc r c dn rt : Int) (fr fc : Bool) (w : World) (ht : Tab w) :
    Calls Tryd.prog 4 #[.agg #[.int .i64 mr, .int .i64 mc, .bool fr, .bool fc], .int .i64 r, .int .i64 c, .int .i64 dn, .int .i64 rt] w fun e w' => e = .returned (.bool true) ∧ Below w.heap.size w w' := by
  have HT := Lib.hid ht
  clear ht
  go_enter Tryd.func4, Tryd.ntmps4
  go_wp2_with fail
  refine (awake_any _ (tab_alloc HT.out _)).mono ?_
  rintro e w1 ⟨rfl, hb1⟩
  have HB1 := Lib.hid (((Below.refl w.heap.size w).alloc (Nat.le_refl _) _).trans (hb1.mono (by simp)))
  have B1 := Lib.hid ((Blk.new w 28 #[.int .i64 mr, .int .i64 mc, .bool fr, .bool fc]).below hb1 (by simp))
  clear hb1
  obtain ⟨⟨x0, x1, x2, x3⟩, y0, y1, y2, y3⟩ := B1.out.four
  by_cases q : dn < -1000000 ∨ 1000000 < dn ∨ rt < -1000000 ∨ 1000000 < rt
  · by_cases q1 : dn < -1000000
    · go_wp2_with fail
      go_ret
      exact ⟨rfl, HB1.out⟩
    by_cases q2 : 1000000 < dn
    · go_wp2_with fail
      go_ret
      exact ⟨rfl, HB1.out⟩
    by_cases q3 : rt < -1000000
    · go_wp2_with fail
      go_ret
      exact ⟨rfl, HB1.out⟩
    have q4 : 1000000 < rt := by omega
    go_wp2_with fail
    go_ret
    exact ⟨rfl, HB1.out⟩
  have q1 : -1000000 ≤ dn := by omega
  have q2 : dn ≤ 1000000 := by omega
  have q3 : -1000000 ≤ rt := by omega
  have q4 : rt ≤ 1000000 := by omega
  clear q
  have hpl := Lib.hid (moves_plain mr mc r c dn rt fr fc q1 q2 q3 q4)
  go_wp2_with fail
  refine (relative_any _ _ _ _ _ _ _ (tab_below HT.out HB1.out)).mono ?_
  rintro e w2 ⟨rfl, hb2⟩
  have HB2 := Lib.hid (HB1.out.trans (hb2.mono HB1.out.size))
  have B2 := Lib.hid (B1.out.below hb2 B1.out.lt)
  clear hb2 x0 x1 x2 x3 y0 y1 y2 y3 B1
  obtain ⟨⟨x0, x1, x2, x3⟩, y0, y1, y2, y3⟩ := B2.out.four
  generalize hT : relL ⟨mr, mc, fr, fc⟩ r c = t
  have HTT := Lib.hid hT
  clear hT
  have hlt : w.heap.size < w2.heap.size := B2.out.lt
  cases fr <;> cases fc
  all_goals
    go_wp2_with fail
    refine (relative_any _ _ _ _ _ _ _ (tab_below HT.out (HB2.out.alloc HB2.out.size _))).mono ?_
    rintro e w3 ⟨rfl, hb3⟩
    have HB3 := Lib.hid ((HB2.out.alloc HB2.out.size _).trans (hb3.mono (by have := HB2.out.size; simp; omega)))
    clear hb3
    generalize hU : relL _ _ _ = u
    have HU := Lib.hid hU
    clear hU
    have HF := Lib.hid (show t = [] ∨ u = [] ∨ t = u by have h := hpl.out; rw [HTT.out] at h; simp only [if_true, if_false, Bool.false_eq_true] at h; rw [HU.out] at h; exact h)
    by_cases t0 : t = []
    · subst t0
      go_wp2_with fail
      go_ret
      exact ⟨rfl, HB3.out⟩
    have t1 : t.isEmpty = false := by simpa using t0
    by_cases u0 : u = []
    · subst u0
      clear t0
      go_wp2_with fail
      go_ret
      exact ⟨rfl, HB3.out⟩
    have u1 : u.isEmpty = false := by simpa using u0
    have tu : t = u := by rcases HF.out with h | h | h; exact absurd h t0; exact absurd h u0; exact h
    clear t0 u0 HF
    subst tu
    go_wp2_with fail
    go_ret
    exact ⟨ret_bool (by simp), HB3.out⟩
end Go.Proofs.YtlbiofmcanjijaaDoor
