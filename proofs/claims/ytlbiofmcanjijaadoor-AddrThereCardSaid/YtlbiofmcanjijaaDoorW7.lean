/- The walk of awake, and those of the laws on columns and moves. -/
import Derived.Test.YtlbiofmcanjijaaDoorW6
namespace Go.Proofs.YtlbiofmcanjijaaDoor
open Go.RowKit
open Ad

theorem itoa_3 : Lib.itoa 3 = [51] := by unfold Lib.itoa; rw [if_neg (by omega)]; show Lib.decDigits 3 = _; rw [Lib.decDigits, dif_pos (by omega)]; rfl
theorem itoa_1 : Lib.itoa 1 = [49] := by unfold Lib.itoa; rw [if_neg (by omega)]; show Lib.decDigits 1 = _; rw [Lib.decDigits, dif_pos (by omega)]; rfl
theorem awake_parse : parseL [66, 36, 51] = some ⟨2, 1, true, false⟩ :=
  parse_yes [66, 36, 51] 1 3 (by decide +kernel) (by decide +kernel)
theorem awake_rel : relL ⟨2, 1, true, false⟩ 0 0 = [82, 51, 67, 91, 49, 93] := by
  unfold relL
  rw [if_pos (by decide)]
  unfold seenL
  simp only [if_true, if_false, Bool.false_eq_true]
  rw [if_neg (by omega), show (2 + 1 : Int) = 3 from rfl, show (1 - 0 : Int) = 1 from rfl, itoa_3, itoa_1]
  rfl
theorem awake_let : lets 26 = [65, 65] := by decide +kernel

set_option maxHeartbeats 1000000 in
theorem awake_any (w : World) (ht : Tab w) : Calls Tryd.prog 9 #[] w fun e w' => e = .returned (.bool true) ∧ Below w.heap.size w w' := by
  have HT := Lib.hid ht
  clear ht
  have heq : ∀ w, (binOp .eql 28 (.agg #[.int .i64 2, .int .i64 1, .bool true, .bool false]) (.agg #[.int .i64 2, .int .i64 1, .bool true, .bool false])).run Tryd.prog w = .ok (.bool true) w := fun _ => by kernel_rfl
  go_enter Tryd.func9, Tryd.ntmps9
  go_wp2_with fail
  refine (parse_any _ _ (by decide)).mono ?_
  rintro e w1 ⟨rfl, hb1⟩
  rw [show (ByteArray.mk #[66, 36, 51]).data.toList = [66, 36, 51] from rfl, awake_parse]
  simp only [mkRet]
  have HB1 := Lib.hid hb1
  clear hb1
  go_wp2_with fail
  refine (letters_any _ _ (by omega) (by omega)).mono ?_
  rintro e w2 ⟨rfl, hb2⟩
  rw [awake_let]
  have B := (Blk.new w1 28 #[.int .i64 2, .int .i64 1, .bool true, .bool false]).below hb2 (by simp)
  have HB2 := Lib.hid ((HB1.out.alloc HB1.out.size _).trans (hb2.mono (by have := HB1.out.size; simp; omega)))
  clear hb2
  obtain ⟨⟨x0, x1, x2, x3⟩, y0, y1, y2, y3⟩ := B.four
  clear B
  go_wp2_with fail
  refine (relative_any _ _ _ _ _ _ _ (tab_below HT.out HB2.out)).mono ?_
  rintro e w3 ⟨rfl, hb3⟩
  rw [awake_rel]
  go_wp2_with fail
  go_ret
  exact ⟨rfl, HB2.out.trans (hb3.mono HB2.out.size)⟩

theorem L_inj (a b : Int) (h0 : 0 ≤ a) (h1 : a < 26) (h2 : 0 ≤ b) (h3 : b < 26) : (L a == L b) = decide (a = b) := by
  rw [Bool.eq_iff_iff, beq_iff_eq, decide_eq_true_eq]
  constructor
  · intro h
    have := congrArg UInt8.toNat h
    rw [L_toNat a h0 h1, L_toNat b h2 h3] at this
    omega
  · rintro rfl; rfl
theorem L_lt (a b : Int) (h0 : 0 ≤ a) (h1 : a < 26) (h2 : 0 ≤ b) (h3 : b < 26) : (decide (L a < L b)) = decide (a < b) := by
  rw [decide_eq_decide, UInt8.lt_iff_toNat_lt, L_toNat a h0 h1, L_toNat b h2 h3]
  omega
theorem lets_order (a b : Int) (ha0 : 0 ≤ a) (ha1 : a ≤ 18277) (hb0 : 0 ≤ b) (hb1 : b ≤ 18277) :
    decide (a < b) = (decide ((lets a).length < (lets b).length) || (decide ((lets a).length = (lets b).length) && Op.bytesLess (lets a) (lets b))) := by
  unfold lets
  rw [if_neg (by omega), if_neg (by omega), if_neg (show ¬ b < 0 by omega), if_neg (show ¬ 18277 < b by omega)]
  by_cases a1 : a < 26
  · rw [if_pos a1]
    by_cases b1 : b < 26
    · rw [if_pos b1]
      simp only [List.length_cons, List.length_nil, Op.bytesLess, L_lt a b ha0 a1 hb0 b1, L_inj a b ha0 a1 hb0 b1]
      simp
    · rw [if_neg b1]
      split <;> simp <;> omega
  · rw [if_neg a1]
    by_cases a2 : a < 702
    · rw [if_pos a2]
      by_cases b1 : b < 26
      · rw [if_pos b1]; simp; omega
      · rw [if_neg b1]
        by_cases b2 : b < 702
        · rw [if_pos b2]
          simp only [List.length_cons, List.length_nil, Op.bytesLess, L_lt ((a - 26) / 26) ((b - 26) / 26) (by omega) (by omega) (by omega) (by omega), L_inj ((a - 26) / 26) ((b - 26) / 26) (by omega) (by omega) (by omega) (by omega), L_lt ((a - 26) % 26) ((b - 26) % 26) (by omega) (by omega) (by omega) (by omega)]
          rw [Bool.eq_iff_iff]; simp; omega
        · rw [if_neg b2]; simp; omega
    · rw [if_neg a2]
      by_cases b1 : b < 26
      · rw [if_pos b1]; simp; omega
      · rw [if_neg b1]
        by_cases b2 : b < 702
        · rw [if_pos b2]; simp; omega
        · rw [if_neg b2]
          simp only [List.length_cons, List.length_nil, Op.bytesLess, L_lt ((a - 702) / 676) ((b - 702) / 676) (by omega) (by omega) (by omega) (by omega), L_inj ((a - 702) / 676) ((b - 702) / 676) (by omega) (by omega) (by omega) (by omega), L_lt ((a - 702) / 26 % 26) ((b - 702) / 26 % 26) (by omega) (by omega) (by omega) (by omega), L_inj ((a - 702) / 26 % 26) ((b - 702) / 26 % 26) (by omega) (by omega) (by omega) (by omega), L_lt ((a - 702) % 26) ((b - 702) % 26) (by omega) (by omega) (by omega) (by omega)]
          rw [Bool.eq_iff_iff]; simp; omega

theorem ret_bool {x y : Bool} (h : x = y) : Ending.returned (.bool x) = .returned (.bool y) := by rw [h]
theorem toL (l : List UInt8) : (ByteArray.mk l.toArray).toList = l := by rw [toList_data]
set_option maxHeartbeats 1000000 in
theorem addrOrder_walk (a b : Int) (w : World) (ht : Tab w) (a0 : -9223372036854775808 ≤ a) (a1 : a ≤ 9223372036854775807) (b0 : -9223372036854775808 ≤ b) (b1 : b ≤ 9223372036854775807) :
    Calls Tryd.prog 5 #[.int .i64 a, .int .i64 b] w fun e w' => e = .returned (.bool true) ∧ Below w.heap.size w w' := by
  have HT := Lib.hid ht
  clear ht
  go_enter Tryd.func5, Tryd.ntmps5
  go_wp2_with fail
  refine (awake_any _ HT.out).mono ?_
  rintro e w1 ⟨rfl, hb1⟩
  have HB1 := Lib.hid hb1
  clear hb1
  go_wp2_with fail
  refine (letters_any _ _ a0 a1).mono ?_
  rintro e w2 ⟨rfl, hb2⟩
  have HB2 := Lib.hid (HB1.out.trans (hb2.mono HB1.out.size))
  clear hb2
  go_wp2_with fail
  refine (letters_any _ _ b0 b1).mono ?_
  rintro e w3 ⟨rfl, hb3⟩
  have HB3 := Lib.hid (HB2.out.trans (hb3.mono HB2.out.size))
  clear hb3
  by_cases ha : lets a = []
  · rw [ha]
    go_wp2_with fail
    go_ret
    exact ⟨rfl, HB3.out⟩
  · have ea : (ByteArray.mk (lets a).toArray).toList.isEmpty = false := by rw [toL]; simpa using ha
    by_cases hb : lets b = []
    · rw [hb]
      go_wp2_with fail
      go_ret
      exact ⟨rfl, HB3.out⟩
    · have eb : (ByteArray.mk (lets b).toArray).toList.isEmpty = false := by rw [toL]; simpa using hb
      have hra : 0 ≤ a ∧ a ≤ 18277 := by have := mt (lets_nil a).2 ha; omega
      have hrb : 0 ≤ b ∧ b ≤ 18277 := by have := mt (lets_nil b).2 hb; omega
      have hord := Lib.hid (lets_order a b hra.1 hra.2 hrb.1 hrb.2)
      clear ha hb
      generalize lets a = la at *
      generalize lets b = lb at *
      have ea' : la.isEmpty = false := by rw [toL] at ea; exact ea
      have eb' : lb.isEmpty = false := by rw [toL] at eb; exact eb
      clear ea eb hra hrb
      by_cases hl : la.length < lb.length
      · have hab : decide (a < b) = true := by rw [hord.out]; simp [hl]
        have hl1 : decide (la.length < lb.length) = true := by simp [hl]
        clear hord hl
        go_wp2_with fail
        go_ret
        exact ⟨rfl, HB3.out⟩
      · have hl1 : decide (la.length < lb.length) = false := by simp; omega
        by_cases he : la.length = lb.length
        · have hab := Lib.hid (show decide (a < b) = Op.bytesLess la lb by rw [hord.out]; simp [he])
          have hl2 : ((la.length : Int) == (lb.length : Int)) = true := by simp; omega
          clear hord hl he
          go_wp2_with fail
          go_ret
          exact ⟨ret_bool (by rw [hab.out]; simp), HB3.out⟩
        · have hab : decide (a < b) = false := by rw [hord.out]; simp [hl1, he]
          have hl2 : ((la.length : Int) == (lb.length : Int)) = false := by simp; omega
          clear hord hl he
          go_wp2_with fail
          go_ret
          exact ⟨rfl, HB3.out⟩
end Go.Proofs.YtlbiofmcanjijaaDoor
