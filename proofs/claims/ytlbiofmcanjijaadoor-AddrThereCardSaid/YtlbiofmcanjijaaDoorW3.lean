/- The walks of number, and of the reference's Column, count and Num. -/
import Derived.Test.YtlbiofmcanjijaaDoorW2
import Derived.Lib.ItoaLen
namespace Go.Proofs.YtlbiofmcanjijaaDoor
open Go.RowKit
open Ad

theorem dig_yes (b : UInt8) (h1 : 48 ≤ b.toNat) (h2 : b.toNat ≤ 57) : dig b = (b.toNat : Int) - 48 := by unfold dig; rw [if_pos ⟨h1, h2⟩]
theorem dig_no (b : UInt8) (h : ¬ (48 ≤ b.toNat ∧ b.toNat ≤ 57)) : dig b = -1 := by unfold dig; rw [if_neg h]
theorem numGo_cons (b : UInt8) (t : List UInt8) (a : Int) (h : 0 ≤ dig b) : numGo (b :: t) a = numGo t (a * 10 + dig b) := by simp only [numGo]; rw [if_neg (by omega)]
theorem numGo_bad (b : UInt8) (t : List UInt8) (a : Int) (h : dig b < 0) : numGo (b :: t) a = none := by simp only [numGo]; rw [if_pos h]
theorem head_of (s : ByteArray) (h : 0 < s.size) : s.data.toList.head? = some s[0] := by
  have e := drop_cons s 0 h
  rw [List.drop_zero] at e; rw [e]; rfl
theorem pow_bd (pos : Nat) (h : pos ≤ 6) : (10 : Int) ^ pos ≤ 1000000 := by
  have : pos = 0 ∨ pos = 1 ∨ pos = 2 ∨ pos = 3 ∨ pos = 4 ∨ pos = 5 ∨ pos = 6 := by omega
  rcases this with rfl | rfl | rfl | rfl | rfl | rfl | rfl <;> decide

set_option maxHeartbeats 1000000 in
theorem number_any (s : ByteArray) (w : World) (hs : s.size ≤ 9223372036854775807) :
    Calls Tryd.prog 30 #[.string s] w fun e w' => e = .returned (.tuple #[.int .i64 ((num s.data.toList).getD 0), .bool (num s.data.toList).isSome]) ∧ Below w.heap.size w w' := by
  have hl : s.data.toList.length = s.size := by simp
  by_cases h0 : s.size = 0
  · have e0 : s.data.toList = [] := List.eq_nil_of_length_eq_zero (by omega)
    have e1 : s.toList.isEmpty = true := by rw [toList_data, e0]; rfl
    have hc := Lib.hid (show num s.data.toList = none by unfold num; rw [if_pos e0])
    clear e0 h0 hl
    go_enter Tryd.func30, Tryd.ntmps30
    go_wp2
    go_ret2
    exact ⟨by rw [hc.out]; rfl, Below.refl _ _⟩
  have hne : s.data.toList ≠ [] := by
    intro h; apply h0; rw [← hl, h]; rfl
  have e1 : s.toList.isEmpty = false := by rw [toList_data]; simpa using hne
  by_cases h3 : 7 < s.size
  · have hc := Lib.hid (show num s.data.toList = none by unfold num; split <;> first | rfl | rw [if_pos (by omega)])
    clear hl hne
    go_enter Tryd.func30, Tryd.ntmps30
    go_wp2
    go_ret2
    exact ⟨by rw [hc.out]; rfl, Below.refl _ _⟩
  have hp : 0 < s.size := by omega
  have hh := head_of s hp
  have hlt := (s[0]).toNat_lt
  have d3 : decide ((7 : Int) < (s.size : Int)) = false := by simp; omega
  have d3' : decide (7 < s.size) = false := by simp; omega
  by_cases hz : s[0].toNat = 48
  · have hc := Lib.hid (show num s.data.toList = none by
      unfold num; rw [if_neg hne, if_neg (by omega), hh, if_pos]
      exact congrArg some (UInt8.toNat_inj.1 hz))
    have hb : ((s[0].toNat : Int) == 48) = true := by simp; omega
    clear hh hl hne hz
    go_enter Tryd.func30, Tryd.ntmps30
    go_wp2
    go_ret2
    exact ⟨by rw [hc.out]; rfl, Below.refl _ _⟩
  have hc := Lib.hid (show num s.data.toList = numGo s.data.toList 0 by
      unfold num; rw [if_neg hne, if_neg (by omega), hh, if_neg]
      intro h; apply hz; injection h with h; rw [h]; rfl)
  have hb : ((s[0].toNat : Int) == 48) = false := by simp; omega
  clear hh hl hne hz
  go_enter Tryd.func30, Tryd.ntmps30
  go_wp2
  go_loopw [4] (fun c wr => ∃ (pos : Nat) (a : Int), wr = w.iter s pos ∧ c = .int .i64 a ∧ pos ≤ s.size ∧ Hid (numGo (s.data.toList.drop pos) a = numGo s.data.toList 0) ∧ Hid (0 ≤ a ∧ a < 10 ^ pos)) (fun _ wr => s.size - wr.iterPos w.heap.size)
  case atStart => exact ⟨0, 0, rfl, rfl, by omega, rfl, by refine ⟨?_, ?_⟩ <;> decide⟩
  case round =>
    obtain ⟨pos, a, rfl, rfl, hp0, hco, hbd⟩ := hrel
    by_cases hp : pos < s.size
    · have b0 := hbd.out.1
      have b5 : a ≤ 1000000 := by have := pow_bd pos (by omega); have := hbd.out.2; omega
      have hnx : ∀ ty, (Instr.next (.pointer (some ⟨w.heap.size, 0, none⟩)) true ty).run Tryd.prog (w.iter s pos) = _ := fun ty => run_next_any w s pos ty hp
      have hdr := Lib.hid (drop_cons s pos hp)
      rcases ascii_cases s pos hp with ⟨hd, hlt⟩ | ⟨hd1, hge⟩
      · rw [hd] at hnx
        have hco2 := hco.out
        rw [hdr.out] at hco2
        have HC := Lib.hid hco2
        clear hco2 hd hdr hco
        generalize hbb : s[pos] = b at *
        have Hb := Lib.hid hbb
        clear hbb
        by_cases hu : 48 ≤ b.toNat ∧ b.toNat ≤ 57
        · obtain ⟨u1, u2⟩ := hu
          have hcp := Lib.hid (dig_yes b u1 u2)
          go_wp2
          go_roundw
          case rel => exact ⟨pos + 1, a * 10 + dig b, rfl, by rw [hcp.out], by omega, by show _ = _; rw [← HC.out, numGo_cons _ _ _ (by rw [hcp.out]; omega)], by show _ ∧ _; have h2 := hbd.out.2; rw [hcp.out]; refine ⟨by omega, ?_⟩; rw [Int.pow_succ]; omega⟩
          case measure => simp; omega
        · have hcn := Lib.hid (show num s.data.toList = none by rw [hc.out, ← HC.out, numGo_bad _ _ _ (by rw [dig_no b hu]; omega)])
          go_wp2
          all_goals
            go_ret2
            exact ⟨by rw [hcn.out]; rfl, (Below.refl _ _).alloc (Nat.le_refl _) _⟩
      · have hcn := Lib.hid (show num s.data.toList = none by rw [hc.out, ← hco.out, hdr.out, numGo_bad _ _ _ (by rw [dig_no _ (by omega)]; omega)])
        clear hco hdr
        generalize Utf8.decode s pos = dd at *
        go_wp2
        go_ret2
        exact ⟨by rw [hcn.out]; rfl, (Below.refl _ _).alloc (Nat.le_refl _) _⟩
    · have hnx : ∀ ty, (Instr.next (.pointer (some ⟨w.heap.size, 0, none⟩)) true ty).run Tryd.prog (w.iter s pos) = _ := fun ty => run_next_end w s pos ty hp
      have hz := hco.out
      rw [drop_end s pos hp] at hz
      have HZ := Lib.hid hz
      clear hz hco
      go_wp2
      go_ret2
      refine ⟨ret2 ?_ ?_, (Below.refl _ _).alloc (Nat.le_refl _) _⟩
      · rw [hc.out, ← HZ.out]; rfl
      · rw [hc.out, ← HZ.out]; rfl

theorem rcolGo_cons (b : UInt8) (t : List UInt8) (a : Int) (h : 0 ≤ cap b) : rcolGo (b :: t) a = rcolGo t (26 * a + cap b) := by simp only [rcolGo]; rw [if_neg (by omega)]
theorem rcolGo_bad (b : UInt8) (t : List UInt8) (a : Int) (h : cap b < 0) : rcolGo (b :: t) a = none := by simp only [rcolGo]; rw [if_pos h]

set_option maxHeartbeats 1000000 in
theorem refColumn_any (s : ByteArray) (w : World) (hs : s.size ≤ 9223372036854775807) :
    Calls Tryd.prog 12 #[.string s] w fun e w' => e = .returned (.tuple #[.int .i64 ((col s.data.toList).getD 0), .bool (col s.data.toList).isSome]) ∧ w = w' := by
  rw [← rcol_eq]
  have hl : s.data.toList.length = s.size := by simp
  by_cases h0 : s.size < 1
  · have hc := Lib.hid (show rcol s.data.toList = none by unfold rcol; rw [if_pos (by omega)])
    clear hl
    go_enter Tryd.func12, Tryd.ntmps12
    go_wp2_with fail
    go_ret2
    exact ⟨by rw [hc.out]; rfl, rfl⟩
  by_cases h3 : 3 < s.size
  · have hc := Lib.hid (show rcol s.data.toList = none by unfold rcol; split <;> first | rfl | rw [if_pos (by omega)])
    clear hl
    go_enter Tryd.func12, Tryd.ntmps12
    go_wp2_with fail
    go_ret2
    exact ⟨by rw [hc.out]; rfl, rfl⟩
  have hc := Lib.hid (show rcol s.data.toList = (rcolGo s.data.toList 0).map fun n => if s.size = 2 then n + 26 else if s.size = 3 then n + 702 else n by
    unfold rcol; rw [if_neg (by omega), if_neg (by omega), hl])
  clear hl
  have d3 : decide ((3 : Int) < (s.size : Int)) = false := by simp; omega
  have d3' : decide (3 < s.size) = false := by simp; omega
  have d1 : decide ((s.size : Int) < 1) = false := by simp; omega
  have d1' : decide (s.size < 1) = false := decide_eq_false h0
  go_enter Tryd.func12, Tryd.ntmps12
  go_wp2_with fail
  go_loop [4, 5] (fun c i => ∃ (pos : Nat) (a : Int), i = .int .i64 pos ∧ c = .int .i64 a ∧ pos ≤ s.size ∧ Hid (rcolGo (s.data.toList.drop pos) a = rcolGo s.data.toList 0) ∧ Hid (0 ≤ a ∧ a ≤ 17575 ∧ (pos < 3 → a ≤ 675) ∧ (pos < 2 → a ≤ 25) ∧ (pos < 1 → a ≤ 0))) (fun _ i => s.size - (intOf i).toNat)
  case atStart => exact ⟨0, 0, rfl, rfl, by omega, rfl, by refine ⟨?_, ?_, ?_, ?_, ?_⟩ <;> omega⟩
  case round =>
    obtain ⟨pos, a, rfl, rfl, hp0, hco, hbd⟩ := hrel
    obtain ⟨b0, b1, b2, b3, b4⟩ := hbd.out
    by_cases hp : pos < s.size
    · have b5 : a ≤ 675 := b2 (by omega)
      have HC := Lib.hid (show rcolGo (s[pos] :: s.data.toList.drop (pos + 1)) a = rcolGo s.data.toList 0 by rw [← drop_cons s pos hp]; exact hco.out)
      clear hco
      have hcl := cap_lt s[pos]
      by_cases hu : cap s[pos] < 0
      · have hcn := Lib.hid (show rcol s.data.toList = none by rw [hc.out, ← HC.out, rcolGo_bad _ _ _ hu]; rfl)
        go_wp2_with (go_at_call 24; refine (capital_any _ _).mono ?_; rintro e w' ⟨rfl, rfl⟩)
        go_ret2
        exact ⟨by rw [hcn.out]; rfl, rfl⟩
      · go_wp2_with (go_at_call 24; refine (capital_any _ _).mono ?_; rintro e w' ⟨rfl, rfl⟩)
        go_round
        case rel => exact ⟨pos + 1, 26 * a + cap s[pos], by go_num, rfl, by omega, by show _ = _; rw [← HC.out, rcolGo_cons _ _ _ (by omega)], by refine ⟨?_, ?_, ?_, ?_, ?_⟩ <;> omega⟩
        case measure => simp [intOf]; omega
    · have hz := hco.out
      rw [drop_end s pos hp] at hz
      have HZ := Lib.hid (show rcolGo s.data.toList 0 = some a from hz.symm)
      clear hz hco
      by_cases e2 : s.size = 2
      · have e3 : ((s.size : Int) == 2) = true := by simp; omega
        have e4 : ((s.size : Int) == 3) = false := by simp; omega
        have E2 := Lib.hid e2
        clear e2
        go_wp2
        go_ret2
        refine ⟨ret2 ?_ ?_, rfl⟩
        · rw [hc.out, HZ.out]; simp [E2.out]
        · rw [hc.out, HZ.out]; rfl
      · have e3 : ((s.size : Int) == 2) = false := by simp; omega
        by_cases e5 : s.size = 3
        · have e4 : ((s.size : Int) == 3) = true := by simp; omega
          have E2 := Lib.hid e5
          clear e2 e5
          go_wp2
          go_ret2
          refine ⟨ret2 ?_ ?_, rfl⟩
          · rw [hc.out, HZ.out]; simp [E2.out]
          · rw [hc.out, HZ.out]; rfl
        · have e4 : ((s.size : Int) == 3) = false := by simp; omega
          go_wp2
          go_ret2
          refine ⟨ret2 ?_ ?_, rfl⟩
          · rw [hc.out, HZ.out]; simp [e2, e5]
          · rw [hc.out, HZ.out]; rfl

theorem ret1 {k : IntKind} {a b : Int} (h : a = b) : Ending.returned (.int k a) = .returned (.int k b) := by rw [h]
set_option maxHeartbeats 1000000 in
theorem count_any (s : ByteArray) (w : World) (hs : s.size ≤ 9223372036854775807) :
    Calls Tryd.prog 31 #[.string s] w fun e w' => e = .returned (.int .i64 ((num s.data.toList).getD 0)) ∧ w = w' := by
  have hl : s.data.toList.length = s.size := by simp
  by_cases h0 : s.size < 1
  · have e0 : s.data.toList = [] := List.eq_nil_of_length_eq_zero (by omega)
    have hc := Lib.hid (show num s.data.toList = none by unfold num; rw [if_pos e0])
    clear e0 hl
    go_enter Tryd.func31, Tryd.ntmps31
    go_wp2
    go_ret
    exact ⟨by rw [hc.out]; rfl, rfl⟩
  have hne : s.data.toList ≠ [] := by
    intro h; apply h0; rw [← hl, h]; simp
  by_cases h3 : 7 < s.size
  · have hc := Lib.hid (show num s.data.toList = none by unfold num; split <;> first | rfl | rw [if_pos (by omega)])
    clear hl hne
    go_enter Tryd.func31, Tryd.ntmps31
    go_wp2
    go_ret
    exact ⟨by rw [hc.out]; rfl, rfl⟩
  have hp : 0 < s.size := by omega
  have hh := head_of s hp
  have hlt := (s[0]).toNat_lt
  have d3 : decide ((7 : Int) < (s.size : Int)) = false := by simp; omega
  have d3' : decide (7 < s.size) = false := by simp; omega
  have d1 : decide ((s.size : Int) < 1) = false := by simp; omega
  have d1' : decide (s.size < 1) = false := decide_eq_false h0
  by_cases hz : s[0].toNat = 48
  · have hc := Lib.hid (show num s.data.toList = none by
      unfold num; rw [if_neg hne, if_neg (by omega), hh, if_pos]
      exact congrArg some (UInt8.toNat_inj.1 hz))
    have hb : ((s[0].toNat : Int) == 48) = true := by simp; omega
    clear hh hl hne hz
    go_enter Tryd.func31, Tryd.ntmps31
    go_wp2
    go_ret
    exact ⟨by rw [hc.out]; rfl, rfl⟩
  have hc := Lib.hid (show num s.data.toList = numGo s.data.toList 0 by
      unfold num; rw [if_neg hne, if_neg (by omega), hh, if_neg]
      intro h; apply hz; injection h with h; rw [h]; rfl)
  have hb : ((s[0].toNat : Int) == 48) = false := by simp; omega
  clear hh hl hne hz
  go_enter Tryd.func31, Tryd.ntmps31
  go_wp2
  go_loop [3, 4] (fun c i => ∃ (pos : Nat) (a : Int), i = .int .i64 pos ∧ c = .int .i64 a ∧ pos ≤ s.size ∧ Hid (numGo (s.data.toList.drop pos) a = numGo s.data.toList 0) ∧ Hid (0 ≤ a ∧ a < 10 ^ pos)) (fun _ i => s.size - (intOf i).toNat)
  case atStart => exact ⟨0, 0, rfl, rfl, by omega, rfl, by refine ⟨?_, ?_⟩ <;> decide⟩
  case round =>
    obtain ⟨pos, a, rfl, rfl, hp0, hco, hbd⟩ := hrel
    by_cases hp : pos < s.size
    · have b0 := hbd.out.1
      have b5 : a ≤ 1000000 := by have := pow_bd pos (by omega); have := hbd.out.2; omega
      have HC := Lib.hid (show numGo (s[pos] :: s.data.toList.drop (pos + 1)) a = numGo s.data.toList 0 by rw [← drop_cons s pos hp]; exact hco.out)
      clear hco
      have hbl := s[pos].toNat_lt
      by_cases hu : 48 ≤ s[pos].toNat ∧ s[pos].toNat ≤ 57
      · obtain ⟨u1, u2⟩ := hu
        have hcp := Lib.hid (dig_yes s[pos] u1 u2)
        have hw : IntKind.i64.wrap (s[pos].toNat : Int) = (s[pos].toNat : Int) := by rw [IntKind.wrap_i64]; omega
        go_wp2
        go_round
        case rel => exact ⟨pos + 1, a * 10 + dig s[pos], by go_num, by rw [hcp.out]; refine congrArg (Value.int .i64) ?_; omega, by omega, by show _ = _; rw [← HC.out, numGo_cons _ _ _ (by rw [hcp.out]; omega)], by show _ ∧ _; have h2 := hbd.out.2; rw [hcp.out]; refine ⟨by omega, ?_⟩; rw [Int.pow_succ]; omega⟩
        case measure => simp [intOf]; omega
      · have hcn := Lib.hid (show num s.data.toList = none by rw [hc.out, ← HC.out, numGo_bad _ _ _ (by rw [dig_no _ hu]; omega)])
        go_wp2
        all_goals
          go_ret
          exact ⟨by rw [hcn.out]; rfl, rfl⟩
    · have hz := hco.out
      rw [drop_end s pos hp] at hz
      have HZ := Lib.hid hz
      clear hz hco
      go_wp2
      go_ret
      refine ⟨ret1 ?_, rfl⟩
      rw [hc.out, ← HZ.out]; rfl

theorem digit_bytes (k : Nat) (h : k < 10) : (ByteArray.mk #[48, 49, 50, 51, 52, 53, 54, 55, 56, 57]).extract k (k + 1) = ⟨#[UInt8.ofNat (48 + k)]⟩ := by
  have : ∀ i : Fin 10, (ByteArray.mk #[48, 49, 50, 51, 52, 53, 54, 55, 56, 57]).extract i.1 (i.1 + 1) = ⟨#[UInt8.ofNat (48 + i.1)]⟩ := by decide +kernel
  exact this ⟨k, h⟩
set_option maxHeartbeats 1000000 in
theorem numS_any (m : Nat) : ∀ (n : Int) (w : World), 0 ≤ n → n ≤ m → n ≤ 9223372036854775807 →
    Calls Tryd.prog 33 #[.int .i64 n] w fun e w' => e = .returned (S (Lib.decDigits n.toNat)) ∧ w = w' := by
  induction m with
  | zero =>
    intro n w h0 h1 h2
    obtain rfl : n = 0 := by omega
    have hd := Lib.hid (digit_bytes 0 (by omega))
    have hdd := Lib.hid (show Lib.decDigits 0 = [UInt8.ofNat (48 + 0)] by rw [Lib.decDigits, dif_pos (by omega)])
    go_enter Tryd.func33, Tryd.ntmps33
    go_wp2_with fail
    go_ret
    refine ⟨?_, rfl⟩
    show Ending.returned (.string _) = .returned (S (Lib.decDigits 0))
    rw [hdd.out]
    show Ending.returned (.string _) = _
    rw [hd.out]
  | succ m ih =>
    intro n w h0 h1 h2
    obtain ⟨k, rfl⟩ := Int.eq_ofNat_of_zero_le h0
    have Ih := Lib.hid ih
    clear ih
    by_cases hn : k < 10
    · have hd := Lib.hid (digit_bytes k hn)
      have hdd := Lib.hid (show Lib.decDigits k = [UInt8.ofNat (48 + k)] by rw [Lib.decDigits, dif_pos hn])
      go_enter Tryd.func33, Tryd.ntmps33
      go_wp2_with fail
      go_ret
      refine ⟨?_, rfl⟩
      rw [Int.toNat_natCast, hdd.out]
      show Ending.returned (.string _) = _
      rw [hd.out]
    · have hdd := Lib.hid (show Lib.decDigits k = Lib.decDigits (k / 10) ++ [UInt8.ofNat (48 + k % 10)] by rw [Lib.decDigits, dif_neg hn])
      have hd2 := Lib.hid (show Lib.decDigits (k % 10) = [UInt8.ofNat (48 + k % 10)] by rw [Lib.decDigits, dif_pos (by omega)])
      go_enter Tryd.func33, Tryd.ntmps33
      go_wp2_with fail
      refine (Ih.out _ _ (by omega) (by omega) (by omega)).mono ?_
      rintro e w' ⟨rfl, rfl⟩
      generalize hx1 : Lib.decDigits (Int.toNat _) = l1
      have hl1 : l1.length ≤ 20 := by rw [← hx1, Lib.decDigits_length]; exact Lib.nDigits_le20 _ (by omega)
      have Hx1 := Lib.hid hx1; clear hx1
      go_wp2_with fail
      refine (Ih.out _ _ (by omega) (by omega) (by omega)).mono ?_
      rintro e w' ⟨rfl, rfl⟩
      generalize hx2 : Lib.decDigits (Int.toNat _) = l2
      have hl2 : l2.length ≤ 20 := by rw [← hx2, Lib.decDigits_length]; exact Lib.nDigits_le20 _ (by omega)
      have Hx2 := Lib.hid hx2; clear hx2
      go_wp2_with fail
      go_ret
      refine ⟨ret_str ?_, rfl⟩
      rw [Int.toNat_natCast, hdd.out, ← hd2.out, show k / 10 = ((k : Int) / 10).toNat by omega, show k % 10 = ((k : Int) % 10).toNat by omega, Hx1.out, Hx2.out]
      simp
end Go.Proofs.YtlbiofmcanjijaaDoor
