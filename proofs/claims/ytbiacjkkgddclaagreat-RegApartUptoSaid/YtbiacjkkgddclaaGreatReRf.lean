/- tree.right, at some kinds. tree.right, at some kinds. -/
import Derived.Test.YtbiacjkkgddclaaGreatCdRrRz
namespace Go.Proofs.YtbiacjkkgddclaaGreat
open Go.RowKit Go.Shelf

set_option maxRecDepth 100000 in
set_option maxHeartbeats 4000000 in
theorem right_re (w : World) (B b o : Nat) (above kind : Int) (v : Vl) (name : ByteArray) (a q : Cn) (rows : Int) (l : List Tr) (A : Option Addr) (c n : Nat) (qo : Bool) (_ : B ≤ w.heap.size) (hbw : b < w.heap.size)
    (HC : Hid (NodeCells w b o ⟨kind, v, name, a, q, rows⟩ A n c)) (HD : Hid (ND.ok ⟨kind, v, name, a, q, rows⟩)) (_ : Hid (SlAt w B A c l)) (_ : Hid (n = l.length)) (HQ : Hid (ownB ⟨kind, v, name, a, q, rows⟩ n (kind0 l) above = qo)) (hkd : ¬ kind = 0 ∧ ¬ kind = 1 ∧ ¬ kind = 3 ∧ ¬ kind = 4 ∧ ¬ kind = 5 ∧ ¬ kind = 6 ∧ ¬ kind = 8)
    (J K' : Act → World → Prop) (fn : Func) (R : Ending → World → Prop) (hJ : ∀ a' w', Own5 b o above kind qo w a' w' → J a' w') (hK : ∀ a' w', Met J a' w' → K' a' w') :
    Code.wp Tryz.prog rightBlk (Exit.then K' (bodyPost Tryz.prog fn R)) { tmps := #[.pointer (some ⟨b, o, none⟩), .int .i64 above, undef, undef, .bool false, .bool false, undef, .pointer (some ⟨b, o, none⟩), .pointer (some ⟨b, o, none⟩), .pointer (some ⟨b, o, none⟩), .int .i64 kind, undef, undef, undef, undef, undef, undef, undef, undef, undef, undef, undef, undef, undef, undef, undef, undef, undef, undef, undef, undef, undef, undef, undef, undef, undef, undef, undef, undef, undef, undef, undef, undef, undef, undef, undef, undef, undef, undef, undef, undef, undef, undef, undef, undef, undef, undef, undef, undef, undef, undef, undef, undef, undef, undef, undef, undef, undef, undef, undef, undef, undef, undef, undef, undef, undef, undef, undef, undef, undef, undef, undef, undef, undef, undef, undef, undef, undef, undef, undef, undef, undef, undef, undef, undef, undef, undef, undef, undef, undef, undef, undef, undef, undef, undef, undef, undef, undef, undef, undef, undef, undef, undef, undef, undef, undef, undef, undef, undef, undef, undef, undef, undef, undef, undef, undef, undef, undef, undef, undef, undef, undef, undef, undef, undef, undef, undef, undef, undef, undef, undef, undef, undef, undef, undef, undef, undef, undef, undef, undef, undef, undef, undef, undef, undef, undef, undef, undef, undef, undef, undef, undef, undef, undef, undef, undef, undef, undef, undef, undef, undef, undef, undef, undef, undef, undef, undef, undef, undef, undef, undef, undef, undef, undef, undef, undef, undef, undef, undef, undef, undef, undef, undef, undef, undef, undef, undef, undef, undef, undef, undef, undef, undef, undef, undef, undef, undef, undef, undef, undef, undef, undef, undef, undef, undef, undef, undef, undef, undef, undef, undef, undef, undef, undef, undef, undef, undef, undef, undef, undef, undef, undef, undef, undef, undef, undef, undef, undef, undef, undef, undef, undef, undef, undef, undef, undef, undef, undef, undef, undef, undef, undef, undef, undef, undef, undef, undef, undef, undef, undef, undef, undef, undef, undef, undef, undef, undef, undef, undef, undef, undef, undef, undef, undef, undef, undef, undef, undef, undef, undef, undef, undef, undef, undef, undef, undef, undef], defers := [] } w := by
  obtain ⟨h0, h1, h2, h3, h4, h5, h6, h7, h8, h9, h10, h11, h12, h13, h14, h15, h16, h17, h18, h19, h20, h21⟩ := HC.out.all
  dsimp only at h0 h1 h2 h3 h4 h5 h6 h7 h8 h9 h10 h11 h12 h13 h14 h15 h16 h17 h18 h19 h20 h21
  unfold Own5 at hJ
  unfold rightBlk Tryz.f76
  dsimp only
  let Q' : Exit → Act → World → Prop := bodyPost Tryz.prog fn R
  change Code.wp Tryz.prog _ (Exit.then K' Q') _ _
  by_cases k2 : kind = 2
  · clear hkd
    subst k2
    obtain ⟨r2, hr2⟩ : ∃ r2, decide ((⟨2, v, name, a, q, rows⟩ : ND) = { zeroND with a := a, b := q, kind := 2 } ∧ n = 0) = r2 := ⟨_, rfl⟩
    have hBa := fun w2 => bare_ex w2 b o ⟨2, v, name, a, q, rows⟩ { zeroND with a := a, b := q } A none n c 0 0 w hbw HC.out
    dsimp only [zeroND, zeroV, zeroCn, noBytes] at hBa hr2
    rw [hr2] at hBa
    obtain ⟨r1, hr1⟩ : ∃ r1, rangeB a q = r1 := ⟨_, rfl⟩
    have hq : qo = (r1 && r2) := by rw [← hr1, ← hr2]; exact HQ.out.symm
    have hL := fun w => rightRange_any a q w
    dsimp only [areaV] at hL
    rw [hr1] at hL
    have HBa := Lib.hid hBa
    have HR2 := Lib.hid hr2
    clear hBa hr2
    have HQ2 := Lib.hid hq
    have HL := Lib.hid hL
    clear hL hq hr1 HQ
    cases r1
    all_goals
      go_wp2_with (first | (go_at_call 100; refine (HL.out _).mono ?_; rintro e w2 ⟨rfl, hbe⟩; obtain ⟨bc, -⟩ := bcell hbe; dsimp only) | (go_at_call 99; refine (HBa.out _ (by first | assumption | exact Below.refl _ _ | exact (Below.refl _ _).drew | exact below_drewN (Below.refl _ _) _)).mono ?_; rintro e w3 ⟨rfl, hbe2⟩; dsimp only))
      go_meet
      exact ⟨by rw [HQ2.out]; first | rfl | simp, by first | exact hbe.trans (hbe2.mono hbe.size) | exact hbe⟩
  by_cases k7 : kind = 7
  · clear hkd
    subst k7
    obtain ⟨r2, hr2⟩ : ∃ r2, decide ((⟨7, v, name, a, q, rows⟩ : ND) = { zeroND with name := name, kind := 7 } ∧ n = 0) = r2 := ⟨_, rfl⟩
    have hBa := fun w2 => bare_ex w2 b o ⟨7, v, name, a, q, rows⟩ { zeroND with name := name } A none n c 0 0 w hbw HC.out
    dsimp only [zeroND, zeroV, zeroCn, noBytes] at hBa hr2
    rw [hr2] at hBa
    obtain ⟨r1, hr1⟩ : ∃ r1, isNameB name = r1 := ⟨_, rfl⟩
    have hq : qo = (r1 && r2) := by rw [← hr1, ← hr2]; exact HQ.out.symm
    have hL := fun w => isName_any name HD.out.2.2.1 w
    rw [hr1] at hL
    have HBa := Lib.hid hBa
    have HR2 := Lib.hid hr2
    clear hBa hr2
    have HQ2 := Lib.hid hq
    have HL := Lib.hid hL
    clear hL hq hr1 HQ
    cases r1
    all_goals
      go_wp2_with (first | (go_at_call 104; refine (HL.out _).mono ?_; rintro e w2 ⟨rfl, hbe⟩; obtain ⟨bc, -⟩ := bcell hbe; dsimp only) | (go_at_call 99; refine (HBa.out _ (by first | assumption | exact Below.refl _ _ | exact (Below.refl _ _).drew | exact below_drewN (Below.refl _ _) _)).mono ?_; rintro e w3 ⟨rfl, hbe2⟩; dsimp only))
      go_meet
      exact ⟨by rw [HQ2.out]; first | rfl | simp, by first | exact hbe.trans (hbe2.mono hbe.size) | exact hbe⟩
  by_cases k9 : kind = 9
  · clear hkd
    subst k9
    obtain ⟨r2, hr2⟩ : ∃ r2, decide ((⟨9, v, name, a, q, rows⟩ : ND) = { zeroND with kind := 9 } ∧ n = 0) = r2 := ⟨_, rfl⟩
    have hBa := fun w2 => bare_ex w2 b o ⟨9, v, name, a, q, rows⟩ zeroND A none n c 0 0 w hbw HC.out
    dsimp only [zeroND, zeroV, zeroCn, noBytes] at hBa hr2
    rw [hr2] at hBa
    have hq : qo = (decide (above = 4) && r2) := by rw [← hr2]; exact HQ.out.symm
    have HBa := Lib.hid hBa
    have HR2 := Lib.hid hr2
    clear hBa hr2
    have hab : (above == 4) = decide (above = 4) := by rw [Bool.eq_iff_iff]; simp
    generalize decide (above = 4) = b4 at hab hq
    have HQ2 := Lib.hid hq
    clear hq HQ
    cases b4
    all_goals
      go_wp2_with (go_at_call 99; refine (HBa.out _ (by first | assumption | exact Below.refl _ _ | exact (Below.refl _ _).drew | exact below_drewN (Below.refl _ _) _)).mono ?_; rintro e w3 ⟨rfl, hbe2⟩; dsimp only)
      go_meet
      exact ⟨by rw [HQ2.out]; first | rfl | simp, by first | exact hbe2 | exact Below.refl _ _⟩
  have k0 : ¬ kind = 0 := by omega
  have k1 : ¬ kind = 1 := by omega
  have k3 : ¬ kind = 3 := by omega
  have k4 : ¬ kind = 4 := by omega
  have k5 : ¬ kind = 5 := by omega
  have k6 : ¬ kind = 6 := by omega
  have k8 : ¬ kind = 8 := by omega
  clear hkd
  have hq : qo = false := by rw [← HQ.out]; unfold ownB; simp only [if_neg k0, if_neg k2, if_neg k4, if_neg k5, if_neg k6, if_neg k7, if_neg k8, if_neg k9]; rw [if_neg (by omega)]
  subst hq
  clear HQ
  go_wp2
  go_meet
  exact ⟨rfl, Below.refl _ _⟩
end Go.Proofs.YtbiacjkkgddclaaGreat
namespace Go.Proofs.YtbiacjkkgddclaaGreat
open Go.RowKit Go.Shelf

set_option maxRecDepth 100000 in
set_option maxHeartbeats 4000000 in
theorem right_rf (w : World) (B b o : Nat) (above kind : Int) (v : Vl) (name : ByteArray) (a q : Cn) (rows : Int) (l : List Tr) (A : Option Addr) (c n : Nat) (qo : Bool) (_ : B ≤ w.heap.size) (hbw : b < w.heap.size)
    (HC : Hid (NodeCells w b o ⟨kind, v, name, a, q, rows⟩ A n c)) (HD : Hid (ND.ok ⟨kind, v, name, a, q, rows⟩)) (_ : Hid (SlAt w B A c l)) (HN : Hid (n = l.length)) (HQ : Hid (ownB ⟨kind, v, name, a, q, rows⟩ n (kind0 l) above = qo)) (hkd : kind = 6)
    (J K' : Act → World → Prop) (fn : Func) (R : Ending → World → Prop) (hJ : ∀ a' w', Own5 b o above kind qo w a' w' → J a' w') (hK : ∀ a' w', Met J a' w' → K' a' w') :
    Code.wp Tryz.prog rightBlk (Exit.then K' (bodyPost Tryz.prog fn R)) { tmps := #[.pointer (some ⟨b, o, none⟩), .int .i64 above, undef, undef, .bool false, .bool false, undef, .pointer (some ⟨b, o, none⟩), .pointer (some ⟨b, o, none⟩), .pointer (some ⟨b, o, none⟩), .int .i64 kind, undef, undef, undef, undef, undef, undef, undef, undef, undef, undef, undef, undef, undef, undef, undef, undef, undef, undef, undef, undef, undef, undef, undef, undef, undef, undef, undef, undef, undef, undef, undef, undef, undef, undef, undef, undef, undef, undef, undef, undef, undef, undef, undef, undef, undef, undef, undef, undef, undef, undef, undef, undef, undef, undef, undef, undef, undef, undef, undef, undef, undef, undef, undef, undef, undef, undef, undef, undef, undef, undef, undef, undef, undef, undef, undef, undef, undef, undef, undef, undef, undef, undef, undef, undef, undef, undef, undef, undef, undef, undef, undef, undef, undef, undef, undef, undef, undef, undef, undef, undef, undef, undef, undef, undef, undef, undef, undef, undef, undef, undef, undef, undef, undef, undef, undef, undef, undef, undef, undef, undef, undef, undef, undef, undef, undef, undef, undef, undef, undef, undef, undef, undef, undef, undef, undef, undef, undef, undef, undef, undef, undef, undef, undef, undef, undef, undef, undef, undef, undef, undef, undef, undef, undef, undef, undef, undef, undef, undef, undef, undef, undef, undef, undef, undef, undef, undef, undef, undef, undef, undef, undef, undef, undef, undef, undef, undef, undef, undef, undef, undef, undef, undef, undef, undef, undef, undef, undef, undef, undef, undef, undef, undef, undef, undef, undef, undef, undef, undef, undef, undef, undef, undef, undef, undef, undef, undef, undef, undef, undef, undef, undef, undef, undef, undef, undef, undef, undef, undef, undef, undef, undef, undef, undef, undef, undef, undef, undef, undef, undef, undef, undef, undef, undef, undef, undef, undef, undef, undef, undef, undef, undef, undef, undef, undef, undef, undef, undef, undef, undef, undef, undef, undef, undef, undef, undef, undef, undef, undef, undef, undef, undef, undef, undef, undef, undef, undef, undef, undef, undef, undef, undef, undef, undef, undef, undef, undef], defers := [] } w := by
  obtain ⟨h0, h1, h2, h3, h4, h5, h6, h7, h8, h9, h10, h11, h12, h13, h14, h15, h16, h17, h18, h19, h20, h21⟩ := HC.out.all
  dsimp only at h0 h1 h2 h3 h4 h5 h6 h7 h8 h9 h10 h11 h12 h13 h14 h15 h16 h17 h18 h19 h20 h21
  unfold Own5 at hJ
  unfold rightBlk Tryz.f76
  dsimp only
  let Q' : Exit → Act → World → Prop := bodyPost Tryz.prog fn R
  change Code.wp Tryz.prog _ (Exit.then K' Q') _ _
  obtain k6 : kind = 6 := by omega
  clear hkd
  subst k6
  obtain ⟨r2, hr2⟩ : ∃ r2, decide ((⟨6, v, name, a, q, rows⟩ : ND) = { zeroND with name := name, kind := 6 } ∧ n = n) = r2 := ⟨_, rfl⟩
  have hBa := fun w2 => bare_ex w2 b o ⟨6, v, name, a, q, rows⟩ { zeroND with name := name } A A n c n c w hbw HC.out
  dsimp only [zeroND, zeroV, zeroCn, noBytes] at hBa hr2
  rw [hr2] at hBa
  obtain ⟨r1, hr1⟩ : ∃ r1, binaryB name = r1 := ⟨_, rfl⟩
  have hq : qo = (r1 && decide (n = 2) && r2) := by rw [← hr1, ← hr2]; simp only [and_true]; exact HQ.out.symm
  have hL := fun w => isBinary_any name w
  rw [hr1] at hL
  have HBa := Lib.hid hBa
  have HR2 := Lib.hid hr2
  clear hBa hr2
  have HQ2 := Lib.hid hq
  have HL := Lib.hid hL
  clear hL hq hr1 HQ
  have hb0 : Below w.heap.size w w.drew := (Below.refl _ _).drew
  cases r1
  · go_wp2
    go_quiet ((go_at_call 103; exact Calls.quiet_of_same ((HL.out _).mono (fun _ _ h => ⟨h.1, h.2.symm⟩))))
    go_wp2
    go_meet
    exact ⟨by rw [HQ2.out]; rfl, below_drewN (Below.refl _ _) _⟩
  by_cases c1 : n = 2
  · subst c1
    go_wp2
    first | (go_region_held3 (fun wx => (wx.cell? ⟨b, o + 7, none⟩ = some (.string name) ∧ wx.cell? ⟨b, o + 21, none⟩ = some (.slice A 2 c)) ∧ Below w.heap.size w wx) (first | exact keep_n2 (by assumption) (by assumption) hbw | go_keep)
      (first | (go_at_call 103; refine (HL.out _).mono ?_; rintro e w2 ⟨rfl, rfl⟩; dsimp only) | (go_at_call 99; refine (HBa.out _ (by first | assumption | (rename_i hS; exact hS.2))).mono ?_; rintro e w3 ⟨rfl, hbe⟩; dsimp only))) | fail
    all_goals
      go_wp2
      go_meet
      exact ⟨by rw [HQ2.out]; rfl, by first | assumption | (rename_i hS; exact hS.2)⟩
  · have q1 : ((n : Int) == 2) = false := by rw [beq_eq_false_iff_ne]; omega
    have q2 : decide (n = 2) = false := by simp [c1]
    have q3 : decide ((n : Int) = 2) = false := by rw [decide_eq_false_iff_not]; omega
    have q4 : (n == 2) = false := by rw [beq_eq_false_iff_ne]; omega
    go_wp2
    go_quiet ((go_at_call 103; exact Calls.quiet_of_same ((HL.out _).mono (fun _ _ h => ⟨h.1, h.2.symm⟩))))
    go_wp2
    go_meet
    exact ⟨by rw [HQ2.out, q2]; rfl, below_drewN (Below.refl _ _) _⟩
end Go.Proofs.YtbiacjkkgddclaaGreat
