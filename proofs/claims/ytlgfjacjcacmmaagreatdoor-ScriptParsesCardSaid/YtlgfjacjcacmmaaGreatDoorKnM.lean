/- counterpaneref41: num, cut. -/
import Derived.Test.YtlgfjacjcacmmaaGreatDoorJaJbJc
import Derived.Test.YtlgfjacjcacmmaaGreatDoorCaTx0
import Derived.Test.YtlgfjacjcacmmaaGreatDoorFh0CuRh
namespace Go.Proofs.YtlgfjacjcacmmaaGreatDoor
set_option linter.unusedSimpArgs false
set_option linter.unusedVariables false
open Go Go.RowKit Go.Shelf

theorem list_at (s : ByteArray) (k : Nat) (h : k < s.size) : s.data.toList[k]'(by simpa using h) = s[k] := rfl
theorem take_at (s : ByteArray) (k : Nat) (h : k < s.size) : s.data.toList.take (k + 1) = s.data.toList.take k ++ [s[k]] := by
  rw [List.take_succ_eq_append_getElem (by simpa using h)]; rfl
/-- how great a number of few digits is. -/
def NumB (k v : Nat) : Prop := (k = 0 ∧ v = 0) ∨ (k = 1 ∧ v ≤ 9) ∨ (k = 2 ∧ v ≤ 99) ∨ (k = 3 ∧ v ≤ 999) ∨ (k = 4 ∧ v ≤ 9999)
set_option maxRecDepth 100000 in
set_option maxHeartbeats 2000000 in
theorem rnum_c (s : ByteArray) (hs : s.size ≤ 9223372036854775807) (w : World) : Calls Tryz.prog 20 #[.string s] w fun e w' => e = .returned (.int .i64 (numR s.data.toList)) ∧ w = w' := by
  obtain ⟨r, hr⟩ : ∃ r, numR s.data.toList = r := ⟨_, rfl⟩
  rw [hr]
  have hl : s.data.toList.length = s.size := by simp
  unfold numR at hr
  by_cases h1 : s.size < 1
  · rw [if_pos (.inl (by omega))] at hr
    subst hr
    have g1 : (s.size : Int) < 1 := by omega
    clear hl
    go_enter Tryz.func20, Tryz.ntmps20
    go_wp2
    go_ret
    exact ⟨rfl, rfl⟩
  have g1 : ¬ (s.size : Int) < 1 := by omega
  by_cases h2 : 4 < s.size
  · rw [if_pos (.inr (.inl (by omega)))] at hr
    subst hr
    have g2 : (4 : Int) < (s.size : Int) := by omega
    clear hl
    go_enter Tryz.func20, Tryz.ntmps20
    go_wp2
    go_ret
    exact ⟨rfl, rfl⟩
  have g2 : ¬ (4 : Int) < (s.size : Int) := by omega
  have hz : 0 < s.size := by omega
  have hd0 : s.data.toList.headD 0 = s[0] := by
    obtain ⟨⟨l⟩⟩ := s
    cases l with
    | nil => exact absurd hz (by simp [ByteArray.size])
    | cons a l => rfl
  by_cases h3 : 1 < s.size ∧ s[0] = 48
  · rw [if_pos (.inr (.inr ⟨by omega, by rw [hd0]; exact h3.2⟩))] at hr
    subst hr
    have g3 : (1 : Int) < (s.size : Int) := by omega
    have g4 : (((s[0].toNat : Nat) : Int) == 48) = true := by rw [h3.2]; rfl
    clear hl hd0 h3
    go_enter Tryz.func20, Tryz.ntmps20
    go_wp2
    go_ret
    exact ⟨rfl, rfl⟩
  rw [if_neg (by rw [hd0, hl]; rintro (h | h | ⟨h, h'⟩) <;> first | omega | exact h3 ⟨h, h'⟩)] at hr
  have HF := Lib.hid (show ∀ k (hk : k < s.size), isDig s[k] = false → r = -1 from fun k hk h => by
    rw [← hr, if_neg]
    intro ha
    have := List.all_eq_true.1 ha s[k] (by rw [← list_at s k hk]; exact List.getElem_mem _)
    rw [h] at this; cases this)
  have HT := Lib.hid (show (s.data.toList.take s.size).all isDig = true → r = (decV (s.data.toList.take s.size) : Int) from fun h => by
    rw [← hl, List.take_length] at h ⊢
    rw [← hr, if_pos h])
  clear hr hd0 hl
  have g34 : ((1 : Int) < (s.size : Int) ∧ (((s[0].toNat : Nat) : Int) == 48) = false) ∨ ¬ (1 : Int) < (s.size : Int) := by
    by_cases g3 : (1 : Int) < (s.size : Int)
    · refine .inl ⟨g3, ?_⟩
      rw [beq_eq_false_iff_ne]
      intro e
      exact h3 ⟨by omega, UInt8.toNat_inj.1 (by rw [show (48 : UInt8).toNat = 48 from rfl]; omega)⟩
    · exact .inr g3
  clear h3
  rcases g34 with ⟨g3, g4⟩ | g3
  all_goals
    go_enter Tryz.func20, Tryz.ntmps20
    go_wp2
    try clear g4
    clear g1 g2 g3 h1
    go_loop [3, 4] (fun n i => ∃ k v : Nat, k ≤ s.size ∧ n = .int .i64 v ∧ i = .int .i64 k ∧ NumB k v ∧ Hid ((s.data.toList.take k).all isDig = true) ∧ Hid (decV (s.data.toList.take k) = v)) (fun _ i => s.size - (intOf i).toNat)
    case atStart => exact ⟨0, 0, Nat.zero_le _, rfl, rfl, .inl ⟨rfl, rfl⟩, Lib.hid rfl, Lib.hid rfl⟩
    case round =>
      obtain ⟨k, v, hk, rfl, rfl, hnb, hac, hdv⟩ := hrel
      by_cases hlt : k < s.size
      · have hbl := s[k].toNat_lt
        have k1 : (k : Int) < (s.size : Int) := by omega
        have k0 : (0 : Int) ≤ (k : Int) := by omega
        cases hi : isDig s[k] with
        | true =>
          obtain ⟨d1, d2⟩ := dig_bounds hi
          have hst : Hid ((s.data.toList.take (k + 1)).all isDig = true) := Lib.hid (by rw [take_at s k hlt, List.all_append, hac.out]; simp [hi])
          have hst2 : Hid (decV (s.data.toList.take (k + 1)) = v * 10 + (s[k].toNat - 48)) := Lib.hid (by rw [take_at s k hlt, decV_snoc, hdv.out])
          have hv : v ≤ 999 := by unfold NumB at hnb; omega
          have hnx : NumB (k + 1) (v * 10 + (s[k].toNat - 48)) := by unfold NumB at hnb ⊢; omega
          have HNX := Lib.hid hnx
          have e1 : ¬ ((s[k].toNat : Nat) : Int) < 48 := by omega
          have e2 : ¬ (57 : Int) < ((s[k].toNat : Nat) : Int) := by omega
          clear hi hac hdv hnb hnx
          go_wp2
          go_round
          case rel => exact ⟨k + 1, v * 10 + (s[k].toNat - 48), by omega, by go_num, by go_num, HNX.out, hst, hst2⟩
          case measure => simp [intOf]; omega
        | false =>
          obtain rfl : r = -1 := HF.out k hlt hi
          by_cases e1 : s[k].toNat < 48
          · have e1' : ((s[k].toNat : Nat) : Int) < 48 := by omega
            clear hi hac hdv hnb
            go_wp2
            go_ret
            exact ⟨rfl, rfl⟩
          · have e1' : ¬ ((s[k].toNat : Nat) : Int) < 48 := by omega
            have e2 : (57 : Int) < ((s[k].toNat : Nat) : Int) := by
              have h9 : ¬ (48 ≤ s[k].toNat ∧ s[k].toNat ≤ 57) := by
                intro ⟨h, h'⟩
                unfold isDig at hi
                simp at hi
                omega
              omega
            clear hi hac hdv hnb
            go_wp2
            go_ret
            exact ⟨rfl, rfl⟩
      · obtain rfl : k = s.size := by omega
        obtain rfl : r = (v : Int) := by rw [HT.out hac.out, hdv.out]
        clear hac hdv hnb
        have k1 : ¬ ((s.size : Nat) : Int) < (s.size : Int) := by omega
        go_wp2
        go_ret
        exact ⟨rfl, rfl⟩

theorem cutAt_hit {c : UInt8} {l : List UInt8} {k : Nat} (hk : k < l.length) (h : l[k] = c) (hn : c ∉ l.take k) : cutAt c l = (l.take k, l.drop (k + 1), true) := by
  have : l = l.take k ++ c :: l.drop (k + 1) := by
    conv => lhs; rw [← List.take_append_drop k l]
    rw [List.drop_eq_getElem_cons hk, h]
  conv => lhs; rw [this]
  exact cutAt_app hn _
theorem ext_take (s : ByteArray) (i : Nat) : s.extract 0 i = ⟨(s.data.toList.take i).toArray⟩ := by
  have := Lib.extract_data s 0 i
  rw [← bytes_back (s.extract 0 i), this]
  simp
theorem ext_drop (s : ByteArray) (i : Nat) : s.extract i s.size = ⟨(s.data.toList.drop i).toArray⟩ := by
  have := Lib.extract_data s i s.size
  rw [← bytes_back (s.extract i s.size), this]
  congr 2
  rw [List.take_of_length_le (by simp)]
set_option maxRecDepth 100000 in
set_option maxHeartbeats 2000000 in
theorem rcut_c (s : ByteArray) (hs : s.size ≤ 9223372036854775807) (w : World) :
    Calls Tryz.prog 19 #[.string s] w fun e w' => e = .returned (.tuple #[S (cutAt 32 s.data.toList).1, S (cutAt 32 s.data.toList).2.1, .bool (cutAt 32 s.data.toList).2.2]) ∧ ∃ n, w' = w.drewN n := by
  obtain ⟨q, hq⟩ : ∃ q, cutAt 32 s.data.toList = q := ⟨_, rfl⟩
  rw [hq]
  have HQ := Lib.hid hq
  clear hq
  go_enter Tryz.func19, Tryz.ntmps19
  go_wp2
  go_loop [5] (fun i => ∃ k : Nat, k ≤ s.size ∧ i = .int .i64 k ∧ Hid ((32 : UInt8) ∉ s.data.toList.take k)) (fun i => s.size - (intOf i).toNat)
  case atStart => exact ⟨0, Nat.zero_le _, rfl, Lib.hid (by simp)⟩
  case round =>
    obtain ⟨k, hk, rfl, hac⟩ := hrel
    by_cases hlt : k < s.size
    · have hbl := s[k].toNat_lt
      have k1 : (k : Int) < (s.size : Int) := by omega
      have k0 : (0 : Int) ≤ (k : Int) := by omega
      by_cases h32 : s[k] = 32
      · obtain rfl : q = (s.data.toList.take k, s.data.toList.drop (k + 1), true) := by rw [← HQ.out]; exact cutAt_hit (by simpa using hlt) h32 hac.out
        have e1 := Lib.hid (ext_take s k)
        have e2 := Lib.hid (ext_drop s (k + 1))
        have q : ((s[k].toNat : Int) == 32) = true := by rw [h32]; rfl
        have c1 : (0 : Int) ≤ (k : Int) := by omega
        have c2 : (k : Int) ≤ (s.size : Int) := by omega
        have c3 : (0 : Int) ≤ (k : Int) + 1 := by omega
        have c4 : ((k : Int) + 1 : Int) ≤ (s.size : Int) := by omega
        clear h32 HQ hac
        go_wp2
        go_region
        go_wp2
        go_ret3
        exact ⟨by dsimp only [S]; rw [← e1.out, ← e2.out]; rfl, 1, rfl⟩
      · have hn : ¬ s[k].toNat = 32 := fun e => h32 (UInt8.toNat_inj.1 e)
        have q : ((s[k].toNat : Int) == 32) = false := by simp; omega
        have hst : Hid ((32 : UInt8) ∉ s.data.toList.take (k + 1)) := Lib.hid (by
          rw [take_at s k hlt]
          intro hm
          rcases List.mem_append.1 hm with hm | hm
          · exact hac.out hm
          · rw [List.mem_singleton] at hm; exact h32 hm.symm)
        clear h32 hac hn
        go_wp2
        go_round
        case rel => exact ⟨k + 1, by omega, by go_num, hst⟩
        case measure => simp [intOf]; omega
    · obtain rfl : k = s.size := by omega
      obtain rfl : q = (s.data.toList, [], false) := by
        rw [← HQ.out]
        have := hac.out
        rw [List.take_of_length_le (by simp)] at this
        exact cutAt_no this
      have k1 : ¬ ((s.size : Nat) : Int) < (s.size : Int) := by omega
      clear HQ hac
      go_wp2
      go_ret3
      exact ⟨by dsimp only [S]; rw [bytes_back s]; first | done | rfl, 0, rfl⟩
end Go.Proofs.YtlgfjacjcacmmaaGreatDoor
