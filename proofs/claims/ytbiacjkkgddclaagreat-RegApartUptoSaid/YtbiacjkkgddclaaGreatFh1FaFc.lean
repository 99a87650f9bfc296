/- counterpaneref06.Name. counterpaneref06.mark. counterpaneref06.Function. -/
import Derived.Test.YtbiacjkkgddclaaGreatFdFh0Fb
import Derived.Test.YtbiacjkkgddclaaGreatCdRrRz
namespace Go.Proofs.YtbiacjkkgddclaaGreat
open Go.RowKit Go.Shelf

set_option maxRecDepth 100000 in
set_option maxHeartbeats 4000000 in
theorem rname_any (s : ByteArray) (hs : s.size ≤ 9223372036854775807) (w : World) : Calls Tryz.prog 94 #[.string s] w fun e w' => e = .returned (.bool (isNameB s)) ∧ Below w.heap.size w w' := by
  by_cases h0 : s.size = 0
  · have hr : isNameB s = false := by unfold isNameB; rw [decide_eq_false (by omega)]; rfl
    rw [hr]
    clear hr
    go_enter Tryz.func94, Tryz.ntmps94
    go_wp2
    go_ret
    exact ⟨rfl, Below.refl _ _⟩
  by_cases h1 : 32 < s.size
  · have hr : isNameB s = false := by unfold isNameB; rw [decide_eq_false (by omega)]; rfl
    rw [hr]
    clear hr
    go_enter Tryz.func94, Tryz.ntmps94
    go_wp2
    go_ret
    exact ⟨rfl, Below.refl _ _⟩
  have h0' : 0 < s.size := by omega
  have hcap := fun w => letter_any s[0] w
  have hb0 := s[0].toNat_lt
  have hhd := headD_at s h0'
  by_cases h2 : (isCap s[0] || decide (s[0].toNat = 95)) = true
  case neg =>
    obtain ⟨h2a, h2b⟩ : isCap s[0] = false ∧ ¬ s[0].toNat = 95 := by simpa using h2
    have hr : isNameB s = false := by unfold isNameB; rw [hhd, h2a, decide_eq_false h2b]; simp
    rw [hr]
    rw [h2a] at hcap
    have HL := Lib.hid hcap
    have hq : ((s[0].toNat : Int) != 95) = true := by simp; omega
    clear hr hcap h2 h2a h2b hhd
    go_enter Tryz.func94, Tryz.ntmps94
    go_wp2_with (go_at_call 112; refine (HL.out _).mono ?_; rintro e w' ⟨rfl, rfl⟩)
    go_ret
    exact ⟨rfl, Below.refl _ _⟩
  have H2 := Lib.hid h2
  have hq : isCap s[0] = false → ((s[0].toNat : Int) != 95) = false := by intro h; rw [h] at h2; simp at h2; simp [h2]
  obtain ⟨c0, hc0⟩ : ∃ c, isCap s[0] = c := ⟨_, rfl⟩
  rw [hc0] at hcap hq
  have HL0 := Lib.hid hcap
  have hA := fun w => raddress_any s hs w
  obtain ⟨ad, had⟩ : ∃ ad, ad = (addrB s || isSeenB s) := ⟨_, rfl⟩
  rw [← had] at hA
  have HA := Lib.hid hA
  have HAD := Lib.hid had
  have HST0 : Hid (∀ j (hj : j < s.size), j < 1 → nameCh s[j] = true) := Lib.hid (fun j hj h => by
    obtain rfl : j = 0 := by omega
    have := H2.out
    unfold nameCh
    rcases Bool.or_eq_true _ _ |>.mp this with h | h <;> simp [h])
  obtain ⟨r, hr⟩ : ∃ r, r = isNameB s := ⟨_, rfl⟩
  rw [← hr]
  have hrest : s.toList = [84, 82, 85, 69] ∨ s.toList = [70, 65, 76, 83, 69] ∨ ad = true → r = false := by
    intro h
    rw [hr]
    unfold isNameB
    rw [ByteArray.toList_eq] at h
    rcases h with h | h | h
    · simp [h]
    · simp [h]
    · rw [had] at h
      rcases Bool.or_eq_true _ _ |>.mp h with h | h <;> simp [h]
  have hgood : ¬ s.toList = [84, 82, 85, 69] → ¬ s.toList = [70, 65, 76, 83, 69] → ad = false → (∀ j (hj : j < s.size), nameCh s[j] = true) → r = true := by
    intro e1 e2 e3 e4
    rw [hr, name_fin s (by omega) (by omega) H2.out e4]
    unfold nameRest
    rw [ByteArray.toList_eq] at e1 e2
    rw [had] at e3
    simp only [Bool.or_eq_false_iff] at e3
    simp [e1, e2, e3.1, e3.2]
  have HREST := Lib.hid hrest
  have HGOOD := Lib.hid hgood
  have HR := Lib.hid hr
  have HC0 := Lib.hid hc0
  clear hr hcap h2 hhd hA had hrest hgood hc0
  have hq0 : c0 = false → ((s[0].toNat : Int) != 95) = false := hq
  clear hq
  cases c0
  all_goals (try have hq1 := hq0 rfl)
  all_goals clear hq0
  all_goals
    by_cases et : s.toList = [84, 82, 85, 69]
    case pos =>
      have ft : Hid (r = false) := Lib.hid (HREST.out (.inl et))
      have q1 : (s.toList == [84, 82, 85, 69]) = true := by simp [et]
      have q2 : decide (s.toList = [84, 82, 85, 69]) = true := by simp [et]
      clear et
      go_enter Tryz.func94, Tryz.ntmps94
      go_wp2_with (go_at_call 112; refine (HL0.out _).mono ?_; rintro e w' ⟨rfl, rfl⟩)
      go_ret
      exact ⟨ret_bool ft.out.symm, Below.refl _ _⟩
    have q1 : (s.toList == [84, 82, 85, 69]) = false := by simp [et]
    have q2 : decide (s.toList = [84, 82, 85, 69]) = false := by simp [et]
    by_cases ef : s.toList = [70, 65, 76, 83, 69]
    case pos =>
      have ft : Hid (r = false) := Lib.hid (HREST.out (.inr (.inl ef)))
      have q3 : (s.toList == [70, 65, 76, 83, 69]) = true := by simp [ef]
      have q4 : decide (s.toList = [70, 65, 76, 83, 69]) = true := by simp [ef]
      clear et ef
      go_enter Tryz.func94, Tryz.ntmps94
      go_wp2_with (go_at_call 112; refine (HL0.out _).mono ?_; rintro e w' ⟨rfl, rfl⟩)
      go_ret
      exact ⟨ret_bool ft.out.symm, Below.refl _ _⟩
    have q3 : (s.toList == [70, 65, 76, 83, 69]) = false := by simp [ef]
    have q4 : decide (s.toList = [70, 65, 76, 83, 69]) = false := by simp [ef]
    have ET := Lib.hid et
    have EF := Lib.hid ef
    clear et ef
    cases ad
    case true =>
      have ft : Hid (r = false) := Lib.hid (HREST.out (.inr (.inr rfl)))
      go_enter Tryz.func94, Tryz.ntmps94
      go_wp2_with (first | (go_at_call 112; refine (HL0.out _).mono ?_; rintro e w' ⟨rfl, rfl⟩) | (go_at_call 115; refine (HA.out _).mono ?_; rintro e w2 ⟨rfl, hbe⟩))
      go_ret
      exact ⟨ret_bool ft.out.symm, hbe⟩
    go_enter Tryz.func94, Tryz.ntmps94
    go_wp2_with (first | (go_at_call 112; refine (HL0.out _).mono ?_; rintro e w' ⟨rfl, rfl⟩) | (go_at_call 115; refine (HA.out _).mono ?_; rintro e w2 ⟨rfl, hbe⟩))
    clear q1 q2 q3 q4
    have HBE := Lib.hid hbe
    clear hbe
    go_loop [3] (fun i => ∃ k : Nat, 1 ≤ k ∧ k ≤ s.size ∧ i = .int .i64 k ∧ Hid (∀ j (hj : j < s.size), j < k → nameCh s[j] = true)) (fun i => s.size - (intOf i).toNat)
    case atStart => exact ⟨1, Nat.le_refl _, by omega, rfl, HST0⟩
    case round =>
      obtain ⟨k, hk1, hk, rfl, hall⟩ := hrel
      by_cases hlt : k < s.size
      · have hL := fun w => letter_any s[k] w
        have hD := fun w => digit_any s[k] w
        have hbl := s[k].toNat_lt
        have hch : nameCh s[k] = (isCap s[k] || isDig s[k] || decide (s[k].toNat = 95) || decide (s[k].toNat = 46)) := rfl
        have hnx : nameCh s[k] = true → Hid (∀ j (hj : j < s.size), j < k + 1 → nameCh s[j] = true) := fun hc => Lib.hid (fun j hj h => by
          rcases Nat.lt_or_ge j k with h' | h'
          · exact hall.out j hj h'
          · obtain rfl : j = k := by omega
            exact hc)
        by_cases hi : isCap s[k] = true
        · have hn := hnx (by rw [hch, hi]; rfl)
          rw [hi] at hL
          have HL := Lib.hid hL
          clear hi hL hD hch hall hnx
          go_wp2_with (go_at_call 112; refine (HL.out _).mono ?_; rintro e w' ⟨rfl, rfl⟩)
          go_round
          case rel => exact ⟨k + 1, by omega, by omega, by go_num, hn⟩
          case measure => simp [intOf]; omega
        have hi' : isCap s[k] = false := by simpa using hi
        rw [hi'] at hL hch
        by_cases hg : isDig s[k] = true
        · have hn := hnx (by rw [hch, hg]; rfl)
          rw [hg] at hD
          have HL := Lib.hid hL
          have HD := Lib.hid hD
          clear hi hi' hg hL hD hch hall hnx
          go_wp2_with (first | (go_at_call 112; refine (HL.out _).mono ?_; rintro e w' ⟨rfl, rfl⟩) | (go_at_call 113; refine (HD.out _).mono ?_; rintro e w' ⟨rfl, rfl⟩))
          go_round
          case rel => exact ⟨k + 1, by omega, by omega, by go_num, hn⟩
          case measure => simp [intOf]; omega
        have hg' : isDig s[k] = false := by simpa using hg
        rw [hg'] at hD hch
        have HL := Lib.hid hL
        have HD := Lib.hid hD
        clear hi hi' hg hg' hL hD
        by_cases hp : s[k].toNat = 46
        · have hn := hnx (by rw [hch]; simp [hp])
          have q : ((s[k].toNat : Int) != 46) = false := by simp; omega
          clear hch hall hp hnx
          go_wp2_with (first | (go_at_call 112; refine (HL.out _).mono ?_; rintro e w' ⟨rfl, rfl⟩) | (go_at_call 113; refine (HD.out _).mono ?_; rintro e w' ⟨rfl, rfl⟩))
          go_round
          case rel => exact ⟨k + 1, by omega, by omega, by go_num, hn⟩
          case measure => simp [intOf]; omega
        have q : ((s[k].toNat : Int) != 46) = true := by simp; omega
        by_cases hu : s[k].toNat = 95
        · have hn := hnx (by rw [hch]; simp [hu])
          have q' : ((s[k].toNat : Int) != 95) = false := by simp; omega
          clear hch hall hp hnx hu
          go_wp2_with (first | (go_at_call 112; refine (HL.out _).mono ?_; rintro e w' ⟨rfl, rfl⟩) | (go_at_call 113; refine (HD.out _).mono ?_; rintro e w' ⟨rfl, rfl⟩))
          go_round
          case rel => exact ⟨k + 1, by omega, by omega, by go_num, hn⟩
          case measure => simp [intOf]; omega
        · have ft : Hid (r = false) := Lib.hid (by rw [HR.out]; exact name_no s hlt (by rw [hch]; simp [hp, hu]))
          have q' : ((s[k].toNat : Int) != 95) = true := by simp; omega
          clear hch hall hp hnx hu
          go_wp2_with (first | (go_at_call 112; refine (HL.out _).mono ?_; rintro e w' ⟨rfl, rfl⟩) | (go_at_call 113; refine (HD.out _).mono ?_; rintro e w' ⟨rfl, rfl⟩))
          go_ret
          exact ⟨ret_bool ft.out.symm, HBE.out⟩
      · have ft : Hid (r = true) := Lib.hid (HGOOD.out ET.out EF.out (by simp) (fun j hj => hall.out j hj (by omega)))
        clear hall
        go_wp2
        go_ret
        exact ⟨ret_bool ft.out.symm, HBE.out⟩
end Go.Proofs.YtbiacjkkgddclaaGreat
namespace Go.Proofs.YtbiacjkkgddclaaGreat
open Go.RowKit Go.Shelf

set_option maxRecDepth 100000 in
set_option maxHeartbeats 2000000 in
theorem rmark_any (s : ByteArray) (hs : s.size ≤ 9223372036854775807) (w : World) : Calls Tryz.prog 114 #[.string s] w fun e w' => e = .returned (.bool (markB s)) ∧ w = w' := by
  go_enter Tryz.func114, Tryz.ntmps114
  go_wp2
  go_loop [3] (fun i => ∃ k : Nat, k ≤ s.size ∧ i = .int .i64 k ∧ Hid (k + runOf isCap s k = runOf isCap s 0)) (fun i => s.size - (intOf i).toNat)
  case atStart => exact ⟨0, by omega, rfl, by show _ = _; omega⟩
  case round =>
    obtain ⟨k, hk, rfl, hsc⟩ := hrel
    have hle := runOf_le isDig s k hk
    by_cases hlt : k < s.size
    · have hL := fun w => letter_any s[k] w
      have hbl := s[k].toNat_lt
      by_cases hi : isCap s[k] = true
      · have hst : Hid (k + 1 + runOf isCap s (k + 1) = runOf isCap s 0) := by show _ = _; have := hsc.out; rw [runOf_step _ s k hlt hi] at this; omega
        rw [hi] at hL
        have HL := Lib.hid hL
        clear hi hsc hL hle
        go_wp2_with (go_at_call 112; refine (HL.out _).mono ?_; rintro e w' ⟨rfl, rfl⟩)
        go_round
        case rel => exact ⟨k + 1, by omega, by go_num, hst⟩
        case measure => simp [intOf]; omega
      · have hi' : isCap s[k] = false := by simpa using hi
        have hst : k = runOf isCap s 0 := by have := hsc.out; rw [runOf_stop _ s k (fun _ => hi')] at this; omega
        have hfin : markB s = decide (k + runOf isDig s k = s.size ∧ k ≤ 3 ∧ 1 ≤ runOf isDig s k ∧ runOf isDig s k ≤ 7 ∧ s[k].toNat ≠ 48) := by
          have : markB s = _ := rfl
          unfold markB
          rw [← hst, getD_at s k hlt]
        have hdg := fun w => rdigits_any (s.extract k s.size) (by simp; omega) w
        rw [digits_from s k hk] at hdg
        rw [hi'] at hL
        have HL := Lib.hid hL
        have HF := Lib.hid hfin
        clear hi hi' hsc hL hst hfin
        by_cases c1 : k ≤ 3
        case neg =>
          have q : Hid (markB s = false) := Lib.hid (by rw [HF.out]; simp; omega)
          clear hdg
          go_wp2_with (go_at_call 112; refine (HL.out _).mono ?_; rintro e w' ⟨rfl, rfl⟩)
          go_ret
          exact ⟨ret_bool q.out.symm, rfl⟩
        by_cases c2 : s.size - k ≤ 7
        case neg =>
          have q : Hid (markB s = false) := Lib.hid (by rw [HF.out]; simp; omega)
          have q2 : ¬ (s.size : Int) - (k : Int) ≤ 7 := by omega
          clear hdg
          go_wp2_with (go_at_call 112; refine (HL.out _).mono ?_; rintro e w' ⟨rfl, rfl⟩)
          go_ret
          exact ⟨ret_bool q.out.symm, rfl⟩
        have c2' : (s.size : Int) - (k : Int) ≤ 7 := by omega
        by_cases c3 : s[k].toNat = 48
        case pos =>
          have q : Hid (markB s = false) := Lib.hid (by rw [HF.out]; simp; omega)
          have q2 : ((s[k].toNat : Int) != 48) = false := by simp; omega
          clear hdg c3
          go_wp2_with (go_at_call 112; refine (HL.out _).mono ?_; rintro e w' ⟨rfl, rfl⟩)
          go_ret
          exact ⟨ret_bool q.out.symm, rfl⟩
        have q2 : ((s[k].toNat : Int) != 48) = true := by simp; omega
        have q : Hid (markB s = decide (k + runOf isDig s k = s.size)) := Lib.hid (by rw [HF.out, Bool.eq_iff_iff]; simp; omega)
        have HD := Lib.hid hdg
        clear hdg c3
        generalize decide (k + runOf isDig s k = s.size) = dg at *
        go_wp2_with (first | (go_at_call 112; refine (HL.out _).mono ?_; rintro e w' ⟨rfl, rfl⟩) | (go_at_call 121; refine (HD.out _).mono ?_; rintro e w' ⟨rfl, rfl⟩))
        go_ret
        exact ⟨ret_bool q.out.symm, rfl⟩
    · have hst : k = runOf isCap s 0 := by have := hsc.out; rw [runOf_stop _ s k (fun h => absurd h hlt)] at this; omega
      have q : Hid (markB s = false) := Lib.hid (by unfold markB; rw [← hst, runOf_stop isDig s k (fun h => absurd h hlt)]; simp)
      clear hsc hst hle
      by_cases c1 : k ≤ 3
      · go_wp2
        go_ret
        exact ⟨ret_bool q.out.symm, rfl⟩
      · go_wp2
        go_ret
        exact ⟨ret_bool q.out.symm, rfl⟩
end Go.Proofs.YtbiacjkkgddclaaGreat
namespace Go.Proofs.YtbiacjkkgddclaaGreat
open Go.RowKit Go.Shelf

set_option maxRecDepth 100000 in
set_option maxHeartbeats 2000000 in
theorem rfunction_any (s : ByteArray) (hs : s.size ≤ 9223372036854775807) (w : World) : Calls Tryz.prog 92 #[.string s] w fun e w' => e = .returned (.bool (isCallB s)) ∧ w = w' := by
  by_cases h0 : s.size = 0
  · have hr : isCallB s = false := by unfold isCallB; rw [decide_eq_false (by omega)]; rfl
    rw [hr]
    clear hr
    go_enter Tryz.func92, Tryz.ntmps92
    go_wp2
    go_ret
    exact ⟨rfl, rfl⟩
  by_cases h1 : 32 < s.size
  · have hr : isCallB s = false := by unfold isCallB; rw [decide_eq_false (by omega)]; rfl
    rw [hr]
    clear hr
    go_enter Tryz.func92, Tryz.ntmps92
    go_wp2
    go_ret
    exact ⟨rfl, rfl⟩
  have h0' : 0 < s.size := by omega
  have hcap := fun w => letter_any s[0] w
  have hb0 := s[0].toNat_lt
  by_cases h2 : isCap s[0] = true
  case neg =>
    have h2' : isCap s[0] = false := by simpa using h2
    have hr : isCallB s = false := by unfold isCallB; rw [headD_at s h0', h2']; simp
    rw [hr]
    rw [h2'] at hcap
    have HL := Lib.hid hcap
    clear hr hcap h2 h2'
    go_enter Tryz.func92, Tryz.ntmps92
    go_wp2_with (go_at_call 112; refine (HL.out _).mono ?_; rintro e w' ⟨rfl, rfl⟩)
    go_ret
    exact ⟨rfl, rfl⟩
  have H2 := Lib.hid h2
  rw [h2] at hcap
  have HL0 := Lib.hid hcap
  have HST0 : Hid (∀ j (hj : j < s.size), j < 1 → callCh s[j] = true) := Lib.hid (fun j hj h => by
    obtain rfl : j = 0 := by omega
    unfold callCh
    rw [H2.out]; rfl)
  obtain ⟨r, hr⟩ : ∃ r, r = isCallB s := ⟨_, rfl⟩
  rw [← hr]
  have HR := Lib.hid hr
  clear hr hcap h2
  go_enter Tryz.func92, Tryz.ntmps92
  go_wp2_with (go_at_call 112; refine (HL0.out _).mono ?_; rintro e w' ⟨rfl, rfl⟩)
  go_loop [3] (fun i => ∃ k : Nat, 1 ≤ k ∧ k ≤ s.size ∧ i = .int .i64 k ∧ Hid (∀ j (hj : j < s.size), j < k → callCh s[j] = true)) (fun i => s.size - (intOf i).toNat)
  case atStart => exact ⟨1, Nat.le_refl _, by omega, rfl, HST0⟩
  case round =>
    obtain ⟨k, hk1, hk, rfl, hall⟩ := hrel
    by_cases hlt : k < s.size
    · have hL := fun w => letter_any s[k] w
      have hD := fun w => digit_any s[k] w
      have hbl := s[k].toNat_lt
      have hch : callCh s[k] = (isCap s[k] || isDig s[k] || decide (s[k].toNat = 46)) := rfl
      by_cases hi : isCap s[k] = true
      · have hnx : Hid (∀ j (hj : j < s.size), j < k + 1 → callCh s[j] = true) := Lib.hid (fun j hj h => by
          rcases Nat.lt_or_ge j k with h' | h'
          · exact hall.out j hj h'
          · obtain rfl : j = k := by omega
            rw [hch, hi]; rfl)
        rw [hi] at hL
        have HL := Lib.hid hL
        clear hi hL hD hch hall
        go_wp2_with (go_at_call 112; refine (HL.out _).mono ?_; rintro e w' ⟨rfl, rfl⟩)
        go_round
        case rel => exact ⟨k + 1, by omega, by omega, by go_num, hnx⟩
        case measure => simp [intOf]; omega
      have hi' : isCap s[k] = false := by simpa using hi
      rw [hi'] at hL hch
      by_cases hg : isDig s[k] = true
      · have hnx : Hid (∀ j (hj : j < s.size), j < k + 1 → callCh s[j] = true) := Lib.hid (fun j hj h => by
          rcases Nat.lt_or_ge j k with h' | h'
          · exact hall.out j hj h'
          · obtain rfl : j = k := by omega
            rw [hch, hg]; rfl)
        rw [hg] at hD
        have HL := Lib.hid hL
        have HD := Lib.hid hD
        clear hi hi' hg hL hD hch hall
        go_wp2_with (first | (go_at_call 112; refine (HL.out _).mono ?_; rintro e w' ⟨rfl, rfl⟩) | (go_at_call 113; refine (HD.out _).mono ?_; rintro e w' ⟨rfl, rfl⟩))
        go_round
        case rel => exact ⟨k + 1, by omega, by omega, by go_num, hnx⟩
        case measure => simp [intOf]; omega
      have hg' : isDig s[k] = false := by simpa using hg
      rw [hg'] at hD hch
      have HL := Lib.hid hL
      have HD := Lib.hid hD
      clear hi hi' hg hg' hL hD
      by_cases hp : s[k].toNat = 46
      · have hnx : Hid (∀ j (hj : j < s.size), j < k + 1 → callCh s[j] = true) := Lib.hid (fun j hj h => by
          rcases Nat.lt_or_ge j k with h' | h'
          · exact hall.out j hj h'
          · obtain rfl : j = k := by omega
            rw [hch, hp]; rfl)
        have q : ((s[k].toNat : Int) != 46) = false := by simp; omega
        clear hch hall hp
        go_wp2_with (first | (go_at_call 112; refine (HL.out _).mono ?_; rintro e w' ⟨rfl, rfl⟩) | (go_at_call 113; refine (HD.out _).mono ?_; rintro e w' ⟨rfl, rfl⟩))
        go_round
        case rel => exact ⟨k + 1, by omega, by omega, by go_num, hnx⟩
        case measure => simp [intOf]; omega
      · have ft : Hid (r = false) := Lib.hid (by rw [HR.out]; exact call_no s hlt (by rw [hch]; simp [hp]))
        have q : ((s[k].toNat : Int) != 46) = true := by simp; omega
        clear hch hall hp
        go_wp2_with (first | (go_at_call 112; refine (HL.out _).mono ?_; rintro e w' ⟨rfl, rfl⟩) | (go_at_call 113; refine (HD.out _).mono ?_; rintro e w' ⟨rfl, rfl⟩))
        go_ret
        exact ⟨ret_bool ft.out.symm, rfl⟩
    · have hM := fun w => rmark_any s hs w
      have hfin : r = !markB s := by rw [HR.out]; exact call_fin s (by omega) (by omega) H2.out (fun j hj => hall.out j hj (by omega))
      generalize markB s = m at *
      have HM := Lib.hid hM
      have HF := Lib.hid hfin
      clear hM hfin hall
      go_wp2_with (go_at_call 114; refine (HM.out _).mono ?_; rintro e w' ⟨rfl, rfl⟩)
      go_ret
      exact ⟨ret_bool HF.out.symm, rfl⟩
end Go.Proofs.YtbiacjkkgddclaaGreat
