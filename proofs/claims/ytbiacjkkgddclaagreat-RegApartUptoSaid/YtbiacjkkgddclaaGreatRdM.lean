/- tree.right, at some kinds. -/
import Derived.Test.YtbiacjkkgddclaaGreatCdRrRz
namespace Go.Proofs.YtbiacjkkgddclaaGreat
open Go.RowKit Go.Shelf

set_option maxRecDepth 100000 in
set_option maxHeartbeats 4000000 in
theorem right_rd (w : World) (B b o : Nat) (above kind : Int) (v : Vl) (name : ByteArray) (a q : Cn) (rows : Int) (l : List Tr) (A : Option Addr) (c n : Nat) (qo : Bool) (_ : B ≤ w.heap.size) (hbw : b < w.heap.size)
    (HC : Hid (NodeCells w b o ⟨kind, v, name, a, q, rows⟩ A n c)) (HD : Hid (ND.ok ⟨kind, v, name, a, q, rows⟩)) (HS : Hid (SlAt w B A c l)) (HN : Hid (n = l.length)) (HQ : Hid (ownB ⟨kind, v, name, a, q, rows⟩ n (kind0 l) above = qo)) (hkd : kind = 8)
    (J K' : Act → World → Prop) (fn : Func) (R : Ending → World → Prop) (hJ : ∀ a' w', Own5 b o above kind qo w a' w' → J a' w') (hK : ∀ a' w', Met J a' w' → K' a' w') :
    Code.wp Tryz.prog rightBlk (Exit.then K' (bodyPost Tryz.prog fn R)) { tmps := #[.pointer (some ⟨b, o, none⟩), .int .i64 above, undef, undef, .bool false, .bool false, undef, .pointer (some ⟨b, o, none⟩), .pointer (some ⟨b, o, none⟩), .pointer (some ⟨b, o, none⟩), .int .i64 kind, undef, undef, undef, undef, undef, undef, undef, undef, undef, undef, undef, undef, undef, undef, undef, undef, undef, undef, undef, undef, undef, undef, undef, undef, undef, undef, undef, undef, undef, undef, undef, undef, undef, undef, undef, undef, undef, undef, undef, undef, undef, undef, undef, undef, undef, undef, undef, undef, undef, undef, undef, undef, undef, undef, undef, undef, undef, undef, undef, undef, undef, undef, undef, undef, undef, undef, undef, undef, undef, undef, undef, undef, undef, undef, undef, undef, undef, undef, undef, undef, undef, undef, undef, undef, undef, undef, undef, undef, undef, undef, undef, undef, undef, undef, undef, undef, undef, undef, undef, undef, undef, undef, undef, undef, undef, undef, undef, undef, undef, undef, undef, undef, undef, undef, undef, undef, undef, undef, undef, undef, undef, undef, undef, undef, undef, undef, undef, undef, undef, undef, undef, undef, undef, undef, undef, undef, undef, undef, undef, undef, undef, undef, undef, undef, undef, undef, undef, undef, undef, undef, undef, undef, undef, undef, undef, undef, undef, undef, undef, undef, undef, undef, undef, undef, undef, undef, undef, undef, undef, undef, undef, undef, undef, undef, undef, undef, undef, undef, undef, undef, undef, undef, undef, undef, undef, undef, undef, undef, undef, undef, undef, undef, undef, undef, undef, undef, undef, undef, undef, undef, undef, undef, undef, undef, undef, undef, undef, undef, undef, undef, undef, undef, undef, undef, undef, undef, undef, undef, undef, undef, undef, undef, undef, undef, undef, undef, undef, undef, undef, undef, undef, undef, undef, undef, undef, undef, undef, undef, undef, undef, undef, undef, undef, undef, undef, undef, undef, undef, undef, undef, undef, undef, undef, undef, undef, undef, undef, undef, undef, undef, undef, undef, undef, undef, undef, undef, undef, undef, undef, undef, undef, undef, undef, undef, undef, undef], defers := [] } w := by
  obtain ⟨h0, h1, h2, h3, h4, h5, h6, h7, h8, h9, h10, h11, h12, h13, h14, h15, h16, h17, h18, h19, h20, h21⟩ := HC.out.all
  dsimp only at h0 h1 h2 h3 h4 h5 h6 h7 h8 h9 h10 h11 h12 h13 h14 h15 h16 h17 h18 h19 h20 h21
  unfold Own5 at hJ
  unfold rightBlk Tryz.f76
  dsimp only
  let Q' : Exit → Act → World → Prop := bodyPost Tryz.prog fn R
  change Code.wp Tryz.prog _ (Exit.then K' Q') _ _
  obtain k8 : kind = 8 := by omega
  clear hkd
  subst k8
  obtain ⟨r2, hr2⟩ : ∃ r2, decide ((⟨8, v, name, a, q, rows⟩ : ND) = { zeroND with rows := rows, kind := 8 } ∧ n = n) = r2 := ⟨_, rfl⟩
  have hBa := fun w2 => bare_ex w2 b o ⟨8, v, name, a, q, rows⟩ { zeroND with rows := rows } A A n c n c w hbw HC.out
  dsimp only [zeroND, zeroV, zeroCn, noBytes] at hBa hr2
  rw [hr2] at hBa
  have hq : qo = (decide (1 ≤ rows) && decide (1 ≤ n) && decide ((n : Int) % rows = 0) && r2) := by rw [← hr2]; simp only [and_true]; exact HQ.out.symm
  have HBa := Lib.hid hBa
  have HR2 := Lib.hid hr2
  clear hBa hr2
  have HQ2 := Lib.hid hq
  clear hq HQ
  have hb0 : Below w.heap.size w w.drew := (Below.refl _ _).drew
  have hrw := HD.out.2.2.2.2.2
  dsimp only [i64] at hrw
  have hnl : n ≤ 9223372036854775807 := by rw [HN.out]; have := HS.out.1; have := HS.out.2.1; omega
  by_cases c1 : 1 ≤ rows
  · by_cases c2 : 1 ≤ n
    · have hr0 : (rows == 0) = false := by rw [beq_eq_false_iff_ne]; omega
      have hr1 : ¬ rows = 0 := by omega
      have d1 : decide (1 ≤ rows) = true := by simp [c1]
      have d2 : decide ((1 : Int) ≤ (n : Int)) = true := by simp; omega
      have d3 : decide (1 ≤ n) = true := by simp; omega
      have htm : (n : Int).tmod rows = (n : Int) % rows := Int.tmod_eq_emod_of_nonneg (by omega)
      obtain ⟨md, hmd⟩ : ∃ md, (n : Int) % rows = md := ⟨_, rfl⟩
      rw [hmd] at htm
      have hml : 0 ≤ md ∧ md < rows := by rw [← hmd]; exact ⟨Int.emod_nonneg _ (by omega), Int.emod_lt_of_pos _ (by omega)⟩
      obtain ⟨hml1, hml2⟩ := hml
      have hwr : IntKind.i64.wrap md = md := IntWalk.i64_in _ (by omega)
      by_cases c3 : md = 0
      · subst c3
        have HMD := Lib.hid hmd
        go_wp2
        first | (go_region_held3 (fun wx => (wx.cell? ⟨b, o + 20, none⟩ = some (.int .i64 rows) ∧ wx.cell? ⟨b, o + 21, none⟩ = some (.slice A n c)) ∧ Below w.heap.size w wx) (first | exact keep_n3 (by assumption) (by assumption) hbw | go_keep)
          (first | (go_at_call 99; refine (HBa.out _ (by first | assumption | (rename_i hS; exact hS.2))).mono ?_; rintro e w3 ⟨rfl, hbe⟩; dsimp only))) | fail
        all_goals
          go_wp2
          go_meet
          exact ⟨by rw [HQ2.out]; rw [HMD.out, decide_eq_true c1, decide_eq_true c2]; rfl, by first | assumption | (rename_i hS; exact hS.2)⟩
      · have q1 : (md == 0) = false := by simp [c3]
        have q2 : decide (md = 0) = false := by simp [c3]
        have HMD := Lib.hid hmd
        go_wp2
        go_quiet (fail)
        go_wp2
        go_meet
        exact ⟨by rw [HQ2.out]; rw [HMD.out, q2]; simp, below_drewN (Below.refl _ _) _⟩
    · obtain rfl : n = 0 := by omega
      have d1 : decide (1 ≤ rows) = true := by simp [c1]
      go_wp2
      go_quiet (fail)
      go_wp2
      go_meet
      exact ⟨by rw [HQ2.out]; simp, below_drewN (Below.refl _ _) _⟩
  · have d1 : decide (1 ≤ rows) = false := by simp; omega
    go_wp2
    go_quiet (fail)
    go_wp2
    go_meet
    exact ⟨by rw [HQ2.out]; rw [d1]; rfl, below_drewN (Below.refl _ _) _⟩
end Go.Proofs.YtbiacjkkgddclaaGreat
