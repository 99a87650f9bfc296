/- tree.right, at some kinds. -/
import Derived.Test.YtbiacjkkgddclaaGreatCdRrRz
namespace Go.Proofs.YtbiacjkkgddclaaGreat
open Go.RowKit Go.Shelf

set_option maxRecDepth 100000 in
set_option maxHeartbeats 4000000 in
theorem right_ra (w : World) (B b o : Nat) (above kind : Int) (v : Vl) (name : ByteArray) (a q : Cn) (rows : Int) (l : List Tr) (A : Option Addr) (c n : Nat) (qo : Bool) (_ : B ≤ w.heap.size) (hbw : b < w.heap.size)
    (HC : Hid (NodeCells w b o ⟨kind, v, name, a, q, rows⟩ A n c)) (HD : Hid (ND.ok ⟨kind, v, name, a, q, rows⟩)) (_ : Hid (SlAt w B A c l)) (_ : Hid (n = l.length)) (HQ : Hid (ownB ⟨kind, v, name, a, q, rows⟩ n (kind0 l) above = qo)) (hkd : kind = 0 ∨ kind = 1 ∨ kind = 3)
    (J K' : Act → World → Prop) (fn : Func) (R : Ending → World → Prop) (hJ : ∀ a' w', Own5 b o above kind qo w a' w' → J a' w') (hK : ∀ a' w', Met J a' w' → K' a' w') :
    Code.wp Tryz.prog rightBlk (Exit.then K' (bodyPost Tryz.prog fn R)) { tmps := #[.pointer (some ⟨b, o, none⟩), .int .i64 above, undef, undef, .bool false, .bool false, undef, .pointer (some ⟨b, o, none⟩), .pointer (some ⟨b, o, none⟩), .pointer (some ⟨b, o, none⟩), .int .i64 kind, undef, undef, undef, undef, undef, undef, undef, undef, undef, undef, undef, undef, undef, undef, undef, undef, undef, undef, undef, undef, undef, undef, undef, undef, undef, undef, undef, undef, undef, undef, undef, undef, undef, undef, undef, undef, undef, undef, undef, undef, undef, undef, undef, undef, undef, undef, undef, undef, undef, undef, undef, undef, undef, undef, undef, undef, undef, undef, undef, undef, undef, undef, undef, undef, undef, undef, undef, undef, undef, undef, undef, undef, undef, undef, undef, undef, undef, undef, undef, undef, undef, undef, undef, undef, undef, undef, undef, undef, undef, undef, undef, undef, undef, undef, undef, undef, undef, undef, undef, undef, undef, undef, undef, undef, undef, undef, undef, undef, undef, undef, undef, undef, undef, undef, undef, undef, undef, undef, undef, undef, undef, undef, undef, undef, undef, undef, undef, undef, undef, undef, undef, undef, undef, undef, undef, undef, undef, undef, undef, undef, undef, undef, undef, undef, undef, undef, undef, undef, undef, undef, undef, undef, undef, undef, undef, undef, undef, undef, undef, undef, undef, undef, undef, undef, undef, undef, undef, undef, undef, undef, undef, undef, undef, undef, undef, undef, undef, undef, undef, undef, undef, undef, undef, undef, undef, undef, undef, undef, undef, undef, undef, undef, undef, undef, undef, undef, undef, undef, undef, undef, undef, undef, undef, undef, undef, undef, undef, undef, undef, undef, undef, undef, undef, undef, undef, undef, undef, undef, undef, undef, undef, undef, undef, undef, undef, undef, undef, undef, undef, undef, undef, undef, undef, undef, undef, undef, undef, undef, undef, undef, undef, undef, undef, undef, undef, undef, undef, undef, undef, undef, undef, undef, undef, undef, undef, undef, undef, undef, undef, undef, undef, undef, undef, undef, undef, undef, undef, undef, undef, undef, undef, undef, undef, undef, undef, undef], defers := [] } w := by
  obtain ⟨h0, h1, h2, h3, h4, h5, h6, h7, h8, h9, h10, h11, h12, h13, h14, h15, h16, h17, h18, h19, h20, h21⟩ := HC.out.all
  dsimp only at h0 h1 h2 h3 h4 h5 h6 h7 h8 h9 h10 h11 h12 h13 h14 h15 h16 h17 h18 h19 h20 h21
  unfold Own5 at hJ
  unfold rightBlk Tryz.f76
  dsimp only
  let Q' : Exit → Act → World → Prop := bodyPost Tryz.prog fn R
  change Code.wp Tryz.prog _ (Exit.then K' Q') _ _
  by_cases k0 : kind = 0
  · clear hkd
    subst k0
    obtain ⟨r2, hr2⟩ : ∃ r2, decide ((⟨0, v, name, a, q, rows⟩ : ND) = { zeroND with v := v, kind := 0 } ∧ n = 0) = r2 := ⟨_, rfl⟩
    have hBa := fun w2 => bare_ex w2 b o ⟨0, v, name, a, q, rows⟩ { zeroND with v := v } A none n c 0 0 w hbw HC.out
    dsimp only [zeroND, zeroV, zeroCn, noBytes] at hBa hr2
    rw [hr2] at hBa
    obtain ⟨r1, hr1⟩ : ∃ r1, litRight v (decide (above = 8)) = r1 := ⟨_, rfl⟩
    have hq : qo = (r1 && r2) := by rw [← hr1, ← hr2]; exact HQ.out.symm
    have hL := fun w => rightLit_any v HD.out.2.1 (decide (above = 8)) w
    dsimp only [Vl.arr] at hL
    rw [hr1] at hL
    have HBa := Lib.hid hBa
    have HR2 := Lib.hid hr2
    clear hBa hr2
    have HQ2 := Lib.hid hq
    have HR1 := Lib.hid hr1
    clear hq hr1 HQ
    have hab : (above == 8) = decide (above = 8) := by rw [Bool.eq_iff_iff]; simp
    generalize decide (above = 8) = b8 at hL hab
    clear HR1
    have HL := Lib.hid hL
    clear hL
    cases b8 <;> cases r1
    all_goals
      go_wp2_with (first | (go_at_call 98; refine (HL.out _).mono ?_; rintro e w2 ⟨rfl, hbe⟩; obtain ⟨bc, -⟩ := bcell hbe; dsimp only) | (go_at_call 99; refine (HBa.out _ (by first | assumption | exact Below.refl _ _ | exact (Below.refl _ _).drew | exact below_drewN (Below.refl _ _) _)).mono ?_; rintro e w3 ⟨rfl, hbe2⟩; dsimp only))
      go_meet
      exact ⟨by rw [HQ2.out]; first | rfl | simp, by first | exact hbe.trans (hbe2.mono hbe.size) | exact hbe⟩
  by_cases k1 : kind = 1
  · clear hkd
    subst k1
    obtain ⟨r2, hr2⟩ : ∃ r2, decide ((⟨1, v, name, a, q, rows⟩ : ND) = { zeroND with a := a, kind := 1 } ∧ n = 0) = r2 := ⟨_, rfl⟩
    have hBa := fun w2 => bare_ex w2 b o ⟨1, v, name, a, q, rows⟩ { zeroND with a := a } A none n c 0 0 w hbw HC.out
    dsimp only [zeroND, zeroV, zeroCn, noBytes] at hBa hr2
    rw [hr2] at hBa
    have e1 := fun w => eqI w a.ra a.rn 0 0
    have e2 := fun w => eqI w a.ca a.cn 0 0
    have hq : qo = ((!decide (a.ra = 0 ∧ a.rn = 0)) && (!decide (a.ca = 0 ∧ a.cn = 0)) && r2) := by rw [← hr2]; exact HQ.out.symm
    have HBa := Lib.hid hBa
    have HR2 := Lib.hid hr2
    clear hBa hr2
    obtain ⟨r1, hr1⟩ : ∃ r1, decide (a.ra = 0 ∧ a.rn = 0) = r1 := ⟨_, rfl⟩
    obtain ⟨r3, hr3⟩ : ∃ r3, decide (a.ca = 0 ∧ a.cn = 0) = r3 := ⟨_, rfl⟩
    rw [hr1] at e1 hq
    rw [hr3] at e2 hq
    have HQ2 := Lib.hid hq
    clear hq hr1 hr3 HQ
    cases r1 <;> cases r3
    all_goals
      go_wp2_with (go_at_call 99; refine (HBa.out _ (by first | assumption | exact Below.refl _ _ | exact (Below.refl _ _).drew | exact below_drewN (Below.refl _ _) _)).mono ?_; rintro e w3 ⟨rfl, hbe2⟩; dsimp only)
      go_meet
      exact ⟨by rw [HQ2.out]; first | rfl | simp, by first | exact hbe2 | exact Below.refl _ _⟩
  obtain k3 : kind = 3 := by omega
  clear hkd
  subst k3
  obtain ⟨r2, hr2⟩ : ∃ r2, decide ((⟨3, v, name, a, q, rows⟩ : ND) = { zeroND with a := a, kind := 3 } ∧ n = 0) = r2 := ⟨_, rfl⟩
  have hBa := fun w2 => bare_ex w2 b o ⟨3, v, name, a, q, rows⟩ { zeroND with a := a } A none n c 0 0 w hbw HC.out
  dsimp only [zeroND, zeroV, zeroCn, noBytes] at hBa hr2
  rw [hr2] at hBa
  have e1 := fun w => eqI w a.ra a.rn 0 0
  have e2 := fun w => eqI w a.ca a.cn 0 0
  have hq : qo = ((!decide (a.ra = 0 ∧ a.rn = 0)) && (!decide (a.ca = 0 ∧ a.cn = 0)) && r2) := by rw [← hr2]; exact HQ.out.symm
  have HBa := Lib.hid hBa
  have HR2 := Lib.hid hr2
  clear hBa hr2
  obtain ⟨r1, hr1⟩ : ∃ r1, decide (a.ra = 0 ∧ a.rn = 0) = r1 := ⟨_, rfl⟩
  obtain ⟨r3, hr3⟩ : ∃ r3, decide (a.ca = 0 ∧ a.cn = 0) = r3 := ⟨_, rfl⟩
  rw [hr1] at e1 hq
  rw [hr3] at e2 hq
  have HQ2 := Lib.hid hq
  clear hq hr1 hr3 HQ
  cases r1 <;> cases r3
  all_goals
    go_wp2_with (go_at_call 99; refine (HBa.out _ (by first | assumption | exact Below.refl _ _ | exact (Below.refl _ _).drew | exact below_drewN (Below.refl _ _) _)).mono ?_; rintro e w3 ⟨rfl, hbe2⟩; dsimp only)
    go_meet
    exact ⟨by rw [HQ2.out]; first | rfl | simp, by first | exact hbe2 | exact Below.refl _ _⟩
end Go.Proofs.YtbiacjkkgddclaaGreat
