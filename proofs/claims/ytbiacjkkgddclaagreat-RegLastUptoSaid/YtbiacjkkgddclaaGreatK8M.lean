/- RegLast: the walk (under way). -/
import Derived.Test.YtbiacjkkgddclaaGreatK7M
import Derived.Test.YtbiacjkkgddclaaGreatDpFlXt
import Derived.Test.YtbiacjkkgddclaaGreatXmJ7Xa1
namespace Go.Proofs.YtbiacjkkgddclaaGreat
set_option linter.unusedSimpArgs false
set_option linter.unusedVariables false
open Go Go.RowKit Go.Shelf Go.Maps

set_option maxRecDepth 100000 in
set_option maxHeartbeats 16000000 in
theorem regLast_walk (l : List Wr) (y : Ct) (gl : List Ik) (w : World) (A Ac A1 : Option Addr) (c cc c1 : Nat) (hrow : RowW w (fun k => k < w.heap.size) (fun k => k < w.heap.size) A c l) (hok : ∀ m ∈ l, inOk m) (hyv : y.v.ok) (hyd : y.t.d.ok) (hys : SlAt w w.heap.size Ac cc y.t.l) (hyz : y.t.size ≤ 1048576) (hg1 : IkG w (fun k => k < w.heap.size) A1 c1 gl) (hz1 : A1 = none → c1 = 0) :
    Calls Tryz.prog 3 #[.slice A l.length c, contV y Ac cc, .slice A1 gl.length c1] w fun e w' => e = .returned (.bool true) ∧ Below w.heap.size w w' := by
  have HAW := Lib.hid (fun wx => awake37_c wx)
  have HNEW := Lib.hid (fun wx => new_c wx)
  have HINC := Lib.hid (fun wx A n c => in_c wx A n c)
  have hsm := fun (wx : World) (hx : Below w.heap.size w wx) => small37_c (w := wx) (hrow.keep (G' := fun k => k < w.heap.size) (T' := fun k => k < w.heap.size) (fun k hk => ⟨hx.block k hk, hk⟩) (fun k hk => ⟨hx.block k hk, hk⟩)) (fun k hk => Nat.lt_of_lt_of_le hk hx.size) (fun k hk => Nat.lt_of_lt_of_le hk hx.size) rfl (fun m hm => ⟨(hok m hm).2.1, (hok m hm).2.2.1, (hok m hm).2.2.2.1⟩)
  obtain ⟨n, hn⟩ : ∃ n, n = l.length := ⟨_, rfl⟩
  obtain ⟨kg, hkg⟩ : ∃ n, n = gl.length := ⟨_, rfl⟩
  obtain ⟨CC, hCC⟩ : ∃ C, C = contA y Ac cc := ⟨_, rfl⟩
  obtain ⟨g0, hg0⟩ : ∃ g, g = w.heap.size := ⟨_, rfl⟩
  obtain ⟨W0, hW0⟩ : ∃ W, W = w.alloc (.cells CC 37) := ⟨_, rfl⟩
  have hb0 : Below w.heap.size w W0 := by rw [hW0]; exact (bel1 _ _).1
  have hk0 : W0.heap[g0]? = some (.cells CC 37) := by rw [hW0, hg0]; exact heap_alloc_new _ _
  have hcc : ∀ wz, Below W0.heap.size W0 wz → wz.rangeAt g0 0 CC.toList := fun wz hz => row_range_ ((hz.block g0 (Array.getElem?_eq_some_iff.1 hk0).1).trans hk0) _ _ (fun j v hv => by rw [Nat.zero_add, ← Array.getElem?_toList]; exact hv)
  have hs18 : ∀ wz, Below W0.heap.size W0 wz → Calls Tryz.prog 10 #[.agg CC] wz fun e w' => e = .returned (.int .i64 (smallI y)) ∧ Below wz.heap.size wz w' := fun wz hz => by
    have h := hb0.trans (hz.mono hb0.size)
    have := small_c y wz w.heap.size Ac cc hyv hyd (hys.below h) h.size hyz
    rw [hCC]; exact this
  have hri : ∀ wz, Below W0.heap.size W0 wz → Calls Tryz.prog 11 #[.agg CC] wz fun e w' => e = .returned (.bool (rightC y)) ∧ Below wz.heap.size wz w' := fun wz hz => by
    have h := hb0.trans (hz.mono hb0.size)
    have := rright18_c y wz w.heap.size Ac cc hyv hyd (hys.below h) h.size hyz
    rw [hCC]; exact this
  have hbb : n ≤ c ∧ c ≤ 9223372036854775807 := ⟨by rw [hn]; exact hrow.1, hrow.2.1⟩
  have hc1 := hbb.1
  have hc2 := hbb.2
  have HROW := Lib.hid (row_at hrow)
  have HOK := Lib.hid hok
  rw [← hn] at hsm
  unfold contV
  rw [← hn, ← hkg, ← hCC]
  have HSM := Lib.hid hsm
  have HN := Lib.hid hn
  have HKG := Lib.hid hkg
  have HIG := Lib.hid (And.intro hg1 hz1)
  have HYY := Lib.hid (And.intro hyv (And.intro hyd (And.intro hys hyz)))
  have HCCE := Lib.hid hCC
  have HB0 := Lib.hid hb0
  have HCC := Lib.hid hcc
  have HS18 := Lib.hid hs18
  have HRI := Lib.hid hri
  have HW0 := Lib.hid (And.intro hW0 hg0)
  have HIK := Lib.hid (show ∀ x : Ik, (Tryz.prog.info? 28).map (·.size) = some x.cs.length from fun _ => ikInfo)
  have HIC := Lib.hid (show (Tryz.prog.info? 37).map (·.size) = some CC.toList.length ∧ (Tryz.prog.info? 37).map (·.size) = some CC.size from by rw [hCC]; exact ⟨infC, infC⟩)
  clear hsm hn hrow hok hbb hkg hg1 hz1 hyv hyd hys hyz hCC hg0 hW0 hb0 hk0 hcc hs18 hri
  go_enter Tryz.func3, Tryz.ntmps3
  go_upto_region 1 with (fail)
  change Code.wp _ _ _ _ (w.alloc (.cells CC 37))
  rw [← HW0.out.1, ← HW0.out.2]
  rcases smallW_cases l with hs | hs
  · rw [hs] at HSM
    clear hs
    go_wp2_with (first | (go_at_call 8; refine (HAW.out _).mono ?_; rintro e w1 ⟨rfl, hb1⟩; have HB1 := Lib.hid (HB0.out.trans (hb1.mono HB0.out.size)); have HB1o := Lib.hid hb1; clear hb1) | (go_at_call 9; refine (HSM.out w1 HB1.out).mono ?_; rintro e w2 ⟨rfl, hb2⟩; have HB2 := Lib.hid (HB1.out.trans (hb2.mono HB1.out.size)); have HB2o := Lib.hid (HB1o.out.trans (hb2.mono HB1o.out.size)); have hcc2 := HCC.out w2 HB2o.out; clear hb2) | fail)
    first | go_ret | go_ret2 | (refine bodyPost_ret (results_tmp rfl _ _ _) rfl ?_)
    exact ⟨by kernel_rfl, HB2.out⟩
  · rw [hs] at HSM
    obtain ⟨h40, h60, -⟩ := smallW_one (l := l) (by rw [hs]; decide)
    have H40 := Lib.hid (And.intro h40 h60)
    have hn40 : n ≤ 40 := by rw [HN.out]; exact h40
    clear hs h40 h60
    by_cases hg60 : 60 < kg
    · have hgI : (60 : Int) < (kg : Int) := by omega
      go_wp2_with (first | (go_at_call 8; refine (HAW.out _).mono ?_; rintro e w1 ⟨rfl, hb1⟩; have HB1 := Lib.hid (HB0.out.trans (hb1.mono HB0.out.size)); have HB1o := Lib.hid hb1; clear hb1) | (go_at_call 9; refine (HSM.out w1 HB1.out).mono ?_; rintro e w2 ⟨rfl, hb2⟩; have HB2 := Lib.hid (HB1.out.trans (hb2.mono HB1.out.size)); have HB2o := Lib.hid (HB1o.out.trans (hb2.mono HB1o.out.size)); have hcc2 := HCC.out w2 HB2o.out; clear hb2) | fail)
      first | go_ret | go_ret2 | (refine bodyPost_ret (results_tmp rfl _ _ _) rfl ?_)
      exact ⟨by kernel_rfl, HB2.out⟩
    have hgI : ¬ ((60 : Int) < (kg : Int)) := by omega
    have hgd : decide ((60 : Int) < (kg : Int)) = false := decide_eq_false hgI
    have hgd' : decide (60 < kg) = false := decide_eq_false hg60
    rcases (show smallI y = 0 ∨ smallI y = 1 by unfold smallI; split <;> simp) with hy | hy
    · rw [hy] at HS18
      clear hy
      go_wp2_with (first | (go_at_call 8; refine (HAW.out _).mono ?_; rintro e w1 ⟨rfl, hb1⟩; have HB1 := Lib.hid (HB0.out.trans (hb1.mono HB0.out.size)); have HB1o := Lib.hid hb1; clear hb1) | (go_at_call 9; refine (HSM.out w1 HB1.out).mono ?_; rintro e w2 ⟨rfl, hb2⟩; have HB2 := Lib.hid (HB1.out.trans (hb2.mono HB1.out.size)); have HB2o := Lib.hid (HB1o.out.trans (hb2.mono HB1o.out.size)); have hcc2 := HCC.out w2 HB2o.out; clear hb2) | ((try rw [hgd]); (try rw [hgd']); refine wpList_mid rfl 37 _ rfl g0 0 rfl CC.toList _ hcc2 undC rfl HIC.out.1 ?_; simp only [Array.toArray_toList]) | (go_at_call 10; refine (HS18.out w2 HB2o.out).mono ?_; rintro e w3 ⟨rfl, hb3⟩; have HB3 := Lib.hid (HB2.out.trans (hb3.mono HB2.out.size)); have HB3o := Lib.hid (HB2o.out.trans (hb3.mono HB2o.out.size)); have hcc3 := HCC.out w3 HB3o.out; clear hb3) | fail)
      first | go_ret | go_ret2 | (refine bodyPost_ret (results_tmp rfl _ _ _) rfl ?_)
      exact ⟨by kernel_rfl, HB3.out⟩
    rw [hy] at HS18
    clear hy
    cases hyr : rightC y with
    | false =>
      rw [hyr] at HRI
      clear hyr
      go_wp2_with (first | (go_at_call 8; refine (HAW.out _).mono ?_; rintro e w1 ⟨rfl, hb1⟩; have HB1 := Lib.hid (HB0.out.trans (hb1.mono HB0.out.size)); have HB1o := Lib.hid hb1; clear hb1) | (go_at_call 9; refine (HSM.out w1 HB1.out).mono ?_; rintro e w2 ⟨rfl, hb2⟩; have HB2 := Lib.hid (HB1.out.trans (hb2.mono HB1.out.size)); have HB2o := Lib.hid (HB1o.out.trans (hb2.mono HB1o.out.size)); have hcc2 := HCC.out w2 HB2o.out; clear hb2) | (refine wpList_mid rfl 37 _ rfl g0 0 rfl CC.toList _ hcc2 undC rfl HIC.out.1 ?_; simp only [Array.toArray_toList]) | (go_at_call 10; refine (HS18.out w2 HB2o.out).mono ?_; rintro e w3 ⟨rfl, hb3⟩; have HB3 := Lib.hid (HB2.out.trans (hb3.mono HB2.out.size)); have HB3o := Lib.hid (HB2o.out.trans (hb3.mono HB2o.out.size)); have hcc3 := HCC.out w3 HB3o.out; clear hb3) | (refine wpList_mid rfl 37 _ rfl g0 0 rfl CC.toList _ hcc3 undC rfl HIC.out.1 ?_; simp only [Array.toArray_toList]) | (go_at_call 11; refine (HRI.out w3 HB3o.out).mono ?_; rintro e w4 ⟨rfl, hb4⟩; have HB4 := Lib.hid (HB3.out.trans (hb4.mono HB3.out.size)); have HB4o := Lib.hid (HB3o.out.trans (hb4.mono HB3o.out.size)); clear hb4) | fail)
      first | go_ret | go_ret2 | (refine bodyPost_ret (results_tmp rfl _ _ _) rfl ?_)
      exact ⟨by kernel_rfl, HB4.out⟩
    | true =>
    rw [hyr] at HRI
    have HYR := Lib.hid hyr
    clear hyr
    go_upto_region 6 with (first | (go_at_call 8; refine (HAW.out _).mono ?_; rintro e w1 ⟨rfl, hb1⟩; have HB1 := Lib.hid (HB0.out.trans (hb1.mono HB0.out.size)); have HB1o := Lib.hid hb1; clear hb1) | (go_at_call 9; refine (HSM.out w1 HB1.out).mono ?_; rintro e w2 ⟨rfl, hb2⟩; have HB2 := Lib.hid (HB1.out.trans (hb2.mono HB1.out.size)); have HB2o := Lib.hid (HB1o.out.trans (hb2.mono HB1o.out.size)); have hcc2 := HCC.out w2 HB2o.out; clear hb2) | (refine wpList_mid rfl 37 _ rfl g0 0 rfl CC.toList _ hcc2 undC rfl HIC.out.1 ?_; simp only [Array.toArray_toList]) | (go_at_call 10; refine (HS18.out w2 HB2o.out).mono ?_; rintro e w3 ⟨rfl, hb3⟩; have HB3 := Lib.hid (HB2.out.trans (hb3.mono HB2.out.size)); have HB3o := Lib.hid (HB2o.out.trans (hb3.mono HB2o.out.size)); have hcc3 := HCC.out w3 HB3o.out; clear hb3) | (refine wpList_mid rfl 37 _ rfl g0 0 rfl CC.toList _ hcc3 undC rfl HIC.out.1 ?_; simp only [Array.toArray_toList]) | (go_at_call 11; refine (HRI.out w3 HB3o.out).mono ?_; rintro e w4 ⟨rfl, hb4⟩; have HB4 := Lib.hid (HB3.out.trans (hb4.mono HB3.out.size)); have HB4o := Lib.hid (HB3o.out.trans (hb4.mono HB3o.out.size)); clear hb4) | (go_at_call 12; refine (HNEW.out _).mono ?_; rintro e wn ⟨p, rfl, hrn, hbn⟩; have HNW := Lib.hid (And.intro hrn hbn); clear hrn hbn) | fail)
    obtain ⟨z0, hz0⟩ : ∃ z, z = w4.heap.size := ⟨_, rfl⟩
    have HZ := Lib.hid (And.intro hz0 HB4o.out)
    have hst : MoI W0 z0 p l n (.int .i64 0) wn := ⟨0, Nat.zero_le _, rfl, Lib.hid ⟨HB4o.out.trans (HNW.out.2.mono HB4o.out.size), by rw [hz0]; exact HNW.out.2.size, by rw [List.take_zero]; exact HNW.out.1.zone (fun b hb => by rw [hz0]; exact hb.1)⟩⟩
    have HST := Lib.hid hst
    clear hz0 hst hcc2 hcc3 hgI hgd hgd'
    go_wp2
    go_loopw [43] (fun iv wr => MoI W0 z0 p l n iv wr) (fun iv _ => n - (intOf iv).toNat)
    case atStart => exact HST.out
    case round =>
     obtain ⟨i, hin, rfl, hR⟩ := hrel
     by_cases hi : i < n
     · have hiI : (i : Int) < (n : Int) := by omega
       have hi0 : (0 : Int) ≤ i := by omega
       have hil : i < l.length := by rw [← HN.out]; exact hi
       have hbw : Below w.heap.size w wr := HB0.out.trans (hR.out.1.mono HB0.out.size)
       obtain ⟨q, o, hA, A', c', Ao, co, hrg, hsl, hio⟩ := HROW.out wr hbw i hil
       subst hA
       obtain ⟨m, hm⟩ : ∃ m, m = l[i] := ⟨_, rfl⟩
       rw [← hm] at hrg hsl hio
       have hmin := HOK.out m (by rw [hm]; exact List.getElem_mem hil)
       obtain ⟨CW, hCW⟩ : ∃ C, C = wrA m A' c' Ao co := ⟨_, rfl⟩
       obtain ⟨gb, hgb⟩ : ∃ b, b = wr.heap.size := ⟨_, rfl⟩
       obtain ⟨w5, hw5⟩ : ∃ w5, w5 = wr.alloc (.cells CW 46) := ⟨_, rfl⟩
       have hb5 : Below wr.heap.size wr w5 := by rw [hw5]; exact (bel1 _ _).1
       have hk5 : w5.heap[gb]? = some (.cells CW 46) := by rw [hw5, hgb]; exact heap_alloc_new _ _
       have hic := rw_info m A' c' Ao co
       have h1w := wrA_one m A' c' Ao co
       have hzs : (wrA zWr none 0 none 0).size = (wrA m A' c' Ao co).size := rfl
       have hws : w.heap.size ≤ wr.heap.size := Below.size hbw
       have hsl5 : SlAt w5 wr.heap.size A' c' m.x.t.l := (hsl.more hws).below hb5
       have hio5 : IkG w5 (fun k => k < wr.heap.size) Ao co m.o := (hio.mono (fun k hk => Nat.lt_of_lt_of_le hk hws)).below hb5
       rw [← hCW] at hrg hic h1w hzs
       have HX := Lib.hid (And.intro hrg (And.intro hic (And.intro h1w (And.intro hzs (And.intro hk5 (And.intro hb5 (And.intro hsl5 hio5)))))))
       have HMIN := Lib.hid hmin
       have HW5 := Lib.hid hw5
       have HGB := Lib.hid hgb
       have HM := Lib.hid hm
       have HCW := Lib.hid hCW
       clear hrg hic h1w hzs hk5 hb5 hsl5 hio5 hmin hw5 hgb hm hCW hsl hio hws
       have hput := put_c (hR.out.2.2.below HX.out.2.2.2.2.2.1) (by omega) (by have := playW_len (l.take i); rw [List.length_take] at this; omega) m A' c' Ao co (wrIn_of HMIN.out (H40.out.2 m (by rw [HM.out]; exact List.getElem_mem hil)) HX.out.2.2.2.2.2.2.1 HX.out.2.2.2.2.2.2.2) (HX.out.2.2.2.2.2.1.size)
       rw [← HCW.out] at hput
       have hbox : w5.rangeAt gb 0 CW.toList := row_range_ HX.out.2.2.2.2.1 _ _ (fun j v hv => by rw [Nat.zero_add, ← Array.getElem?_toList]; exact hv)
       have HBOX := Lib.hid hbox
       have HPUT := Lib.hid hput
       clear hput hbox hbw
       go_upto_region 9 with (first | (refine wpList_mid rfl 46 _ rfl q (o + i * 32) rfl CW.toList _ HX.out.1 undRw rfl HX.out.2.1.2 ?_; simp only [Array.toArray_toList]) | (refine wpList_rwVar rfl rfl wr.heap.size rfl ?_) | (refine wpList_storeFresh (w := wr) rfl 46 _ _ rfl wr.heap.size rfl CW rfl rfl HX.out.2.1.1 HX.out.2.2.2.1 HX.out.2.2.1 ?_) | fail)
       rw [← HW5.out, ← HGB.out]
       go_wp2_with (first | (refine wpList_mid rfl 46 _ rfl gb 0 rfl CW.toList _ HBOX.out undRw rfl HX.out.2.1.2 ?_; simp only [Array.toArray_toList]) | (go_at_call 13; refine HPUT.out.mono ?_; rintro e w6 ⟨rfl, hr6, hk6⟩; have H6 := Lib.hid (And.intro hr6 hk6); clear hr6 hk6) | fail)
       go_roundw
       case measure => simp [intOf]; omega
       case rel =>
         have h5 := HX.out.2.2.2.2.2.1
         have hz := hR.out.2.1
         have h15 := HZ.out
         have hs2 := h15.2.size
         have hw5 : Below W0.heap.size W0 w5 := hR.out.1.trans (h5.mono hR.out.1.size)
         refine ⟨i + 1, by omega, by go_num, Lib.hid ⟨?_, ?_, ?_⟩⟩
         · exact keepZ_below hw5 H6.out.2 (fun b hb => by have hb' : z0 ≤ b := hb; omega) hw5.size
         · have := H6.out.2.size; have := h5.size; omega
         · rw [more_next hil, ← HM.out]
           exact H6.out.1.zone (fun b hb => hb.elim (fun h => h) (fun h => by have := h5.size; show z0 ≤ b; omega))
     · have hie : n = i := by omega
       subst hie
       have hiI : ¬ ((n : Int) < (n : Int)) := by omega
       obtain ⟨M, hM⟩ : ∃ M, M = playW l := ⟨_, rfl⟩
       have hrg := hR.out.2.2
       rw [List.take_of_length_le (by rw [← HN.out]; exact Nat.le_refl _), ← hM] at hrg
       obtain ⟨W, hW⟩ : ∃ W, W = wr := ⟨_, rfl⟩
       rw [← hW] at hrg ⊢
       have hwW : Below W0.heap.size W0 W := by rw [hW]; exact hR.out.1
       have hMl : M.length ≤ 40 := by rw [hM]; exact Nat.le_trans (playW_len _) H40.out.1
       have hMg : ∀ m ∈ M, m.id.ok ∧ goodW m = true := fun m hm => by
         rw [hM] at hm
         have h := playW_good _ (by have := H40.out.1; omega) m hm
         exact ⟨(HOK.out m h.1).1, h.2⟩
       have hMo : OrdW M := by rw [hM]; exact playW_order l
       obtain ⟨k, hk⟩ : ∃ k, k = (idsW M).length := ⟨_, rfl⟩
       have hk2 : k = M.length := by rw [hk]; simp [idsW]
       have hids := ids_c hrg.z (by omega)
       have HIDS := Lib.hid hids
       have HRGB := Lib.hid hrg.bound
       have HWW := Lib.hid hwW
       have HMM := Lib.hid (And.intro hMl (And.intro hMg hMo))
       have HKK := Lib.hid (And.intro hk hk2)
       have hk40 : k ≤ 40 := by omega
       have HIW := Lib.hid (show ∀ (m : Wr) (A : Option Addr) (c : Nat) (Ao : Option Addr) (co : Nat), (Tryz.prog.info? 49).map (·.size) = some (wrA m A c Ao co).size ∧ (Tryz.prog.info? 49).map (·.size) = some (wrA m A c Ao co).toList.length ∧ (wrA zWr none 0 none 0).size = (wrA m A c Ao co).size ∧ (wrA m A c Ao co).all (·.oneCell') = true from fun m A c Ao co => ⟨(wr_idx _ _ _ _ _).1, (wr_idx _ _ _ _ _).2, rfl, wrA_one _ _ _ _ _⟩)
       clear hR HST HNEW HSM HAW HNW hrg hW hwW hMl hM hMg hMo hk hk2 hids HROW HS18 HRI
       go_upto_region 12 with (first | (go_at_call 14; refine HIDS.out.mono ?_; rintro e w6 ⟨A6, c6, rfl, hb6, ho6⟩; have H6 := Lib.hid (And.intro hb6 ho6); clear hb6 ho6) | fail)
       rw [← HKK.out.1]
       have hW06 : Below W0.heap.size W0 w6 := HWW.out.trans (H6.out.1.mono HWW.out.size)
       have HW06 := Lib.hid hW06
       have hcc6 := HCC.out w6 hW06
       obtain ⟨NW, hNW⟩ : ∃ C, C = wrA ⟨⟨1, 1⟩, y, idsW M⟩ Ac cc A6 c6 := ⟨_, rfl⟩
       have hin := HIW.out ⟨⟨1, 1⟩, y, idsW M⟩ Ac cc A6 c6
       rw [← hNW] at hin
       have HNWC := Lib.hid (And.intro hin hNW)
       have HBLD := Lib.hid (show NW = (#[.int .i64 1, .int .i64 1] : Array Value) ++ CC ++ #[.slice A6 k c6] from by rw [hNW, HCCE.out, HKK.out.1]; unfold wrA; apply Array.toList_inj.1; simp [Ik.cs])
       clear hin hNW hW06
       go_upto_region 13 with (first | (refine wpList_mid rfl 37 _ rfl g0 0 rfl CC.toList _ hcc6 undC rfl HIC.out.1 ?_; simp only [Array.toArray_toList]) | (refine wpList_buildSome rfl 49 _ rfl NW ?_ ?_; focus (rw [HNWC.out.2, HCCE.out, HKK.out.1]; kernel_rfl)) | (refine wpList_wrVar rfl rfl w6.heap.size rfl ?_) | (refine wpList_storeFresh (w := w6) rfl 49 _ _ rfl w6.heap.size rfl NW rfl rfl HNWC.out.1.1 HNWC.out.1.2.2.1 HNWC.out.1.2.2.2 ?_) | fail)
       obtain ⟨w7, hw7⟩ : ∃ x, x = w6.alloc (.cells NW 49) := ⟨_, rfl⟩
       obtain ⟨g7, hg7⟩ : ∃ g, g = w6.heap.size := ⟨_, rfl⟩
       rw [← hw7, ← hg7]
       clear hcc6
       have hb67 : Below w6.heap.size w6 w7 := by rw [hw7]; exact (bel1 _ _).1
       have hk7 : w7.heap[g7]? = some (.cells NW 49) := by rw [hw7, hg7]; exact heap_alloc_new _ _
       have hbW7 : Below W.heap.size W w7 := H6.out.1.trans (hb67.mono H6.out.1.size)
       have hik6 := own_ikG H6.out.2 rfl
       have hlt7 : LaT W0 W w7 p n z0 g7 M NW A6 c6 := ⟨HWW.out.trans (hbW7.mono HWW.out.size), HRGB.out.below hbW7, hk7, hik6.keep (fun b hb => ⟨hb67.block b hb.2, hb.1, by rw [hg7]; exact hb.2⟩), by rw [hg7]; exact H6.out.1.size, (Array.getElem?_eq_some_iff.1 hk7).1⟩
       have HT7 := Lib.hid hlt7
       have HNX := Lib.hid (show nextI M = nextI M from rfl)
       clear hw7 hg7 hb67 hk7 hbW7 hik6 hlt7 HNX
       by_cases hk0 : 0 < k
       · have hkI : (0 : Int) < (k : Int) := by omega
         obtain ⟨kk, hkk⟩ : ∃ kk, k = kk + 1 := ⟨k - 1, by omega⟩
         have hml : M.length = kk + 1 := by rw [← HKK.out.2, hkk]
         have hkl : kk < (idsW M).length := by rw [← HKK.out.1]; omega
         obtain ⟨bi, oi, hA6, hzi, hri⟩ := HT7.out.2.2.2.1.at_ kk hkl
         obtain ⟨ln, hln⟩ : ∃ n, n = (M[kk]'(by omega)).id.n := ⟨_, rfl⟩
         have hcl : w7.cell? ⟨bi, oi + (k - 1) * 2 + 1, none⟩ = some (.int .i64 ln) := by
           rw [hkk, Nat.add_sub_cancel]
           refine (hri 1 (.int .i64 ((idsW M)[kk]).n) rfl).trans ?_
           rw [hln]; simp [idsW]
         have hln1 : 1 ≤ ln ∧ ln ≤ 9223372036854775807 := by
           have h := HMM.out.2.1 M[kk] (List.getElem_mem _)
           have h2 := (good_may h.2).1
           unfold mayI at h2
           simp only [decide_eq_true_eq] at h2
           have h3 := h.1.2
           unfold i64 at h3
           rw [hln]; omega
         have hnx : nextI M = ⟨1, ln + 1⟩ := by rw [next_last hml, hln]
         obtain ⟨nn, hnn⟩ : ∃ n, n = wrap64 (ln + 1) := ⟨_, rfl⟩
         have hnc : nn < 1 ∨ nn = ln + 1 := by rw [hnn]; unfold wrap64; omega
         have hq1 : w7.cell? ⟨g7, 1, none⟩ = some (.int .i64 1) := by rw [cell_of_row _ _ 1 _ _ _ HT7.out.2.2.1, HNWC.out.2]; rfl
         have hq2 : w7.frozen? ⟨g7, 1, none⟩ = false := frozen_of_row _ _ _ _ _ HT7.out.2.2.1
         have hwn : wrap64 (ln + 1) = nn := hnn.symm
         have HLN := Lib.hid (And.intro hln1 (And.intro hnx hnc))
         have HNO := Lib.hid (show i64 nn from by rw [hnn]; unfold i64 wrap64; omega)
         have hbg : bi ≠ g7 := by have := hzi.2; omega
         subst hA6
         clear hri hln hln1 hnx hnn hnc hzi hml hkl hkk
         go_upto_region 15 with (fail)
         clear hwn hq1 hq2 hcl
         obtain ⟨w8, hw8⟩ : ∃ x, x = w7.setCell ⟨g7, 1, none⟩ (.int .i64 nn) := ⟨_, rfl⟩
         rw [← hw8]
         obtain ⟨CF, hCF⟩ : ∃ C, C = wrA ⟨⟨1, nn⟩, y, idsW M⟩ Ac cc (some ⟨bi, oi, none⟩) c6 := ⟨_, rfl⟩
         have hk8 : w8.heap[g7]? = some (.cells CF 49) := by rw [hw8, heap_setCell_same _ _ _ _ _ _ HT7.out.2.2.1, HNWC.out.2, wrA_set1, hCF]
         have hb78 : Below g7 w7 w8 := by rw [hw8]; exact (Below.refl g7 w7).setCell (p := ⟨g7, 1, none⟩) (Nat.le_refl g7) _
         have hs78 : w8.heap.size = w7.heap.size := by rw [hw8]; simp
         have hW0g : W0.heap.size ≤ g7 := Nat.le_trans HWW.out.size HT7.out.2.2.2.2.1
         have hlt8 : LaT W0 W w8 p n z0 g7 M CF (some ⟨bi, oi, none⟩) c6 := by
           refine ⟨HT7.out.1.trans (hb78.mono hW0g), ?_, hk8, HT7.out.2.2.2.1.keep (fun b hb => ⟨hb78.block b hb.2, hb⟩), HT7.out.2.2.2.2.1, by rw [hs78]; exact HT7.out.2.2.2.2.2⟩
           exact HT7.out.2.1.keep (Z' := fun b => g7 ≤ b) ⟨hb78.os, hb78.tape, hb78.output, hb78.size, fun b _ hn => hb78.block b (Nat.lt_of_not_le hn)⟩ (fun b hb h => by have := hb.2; have := HT7.out.2.2.2.2.1; omega)
         have hc8 : w8.cell? ⟨g7, 1, none⟩ = some (.int .i64 nn) := by rw [cell_of_row _ _ 1 _ _ _ hk8, hCF]; rfl
         have HT := Lib.hid hlt8
         have HCF := Lib.hid hCF
         clear hw8 hk8 hb78 hs78 hW0g hlt8 hCF
         by_cases hn1 : nn < 1
         · go_wp2
           first | go_ret | go_ret2 | (refine bodyPost_ret (results_tmp rfl _ _ _) rfl ?_)
           have h := HT.out.1
           exact ⟨by kernel_rfl, HB0.out.trans (h.mono HB0.out.size)⟩
         · have hnx : nextI M = ⟨1, nn⟩ := by
             have h := HLN.out.2.2.resolve_left hn1
             rw [HLN.out.2.1, h]
           have HNX := Lib.hid hnx
           clear hnx
           go_upto_region 17 with (fail)
           clear hn1 hc8
           have hstJ : LaJ w8 gl ⟨1, nn⟩ kg (.int .i64 0) w8 := ⟨0, Nat.zero_le _, rfl, Lib.hid ⟨Below.refl _ _, fun j _ h => absurd h (Nat.not_lt_zero _)⟩⟩
           have HSJ := Lib.hid hstJ
           clear hstJ
           go_wp2
           go_loopw [76] (fun iv wr => LaJ w8 gl ⟨1, nn⟩ kg iv wr) (fun iv _ => kg - (intOf iv).toNat)
           case atStart => exact HSJ.out
           case round =>
            obtain ⟨i, hin, rfl, hR2⟩ := hrel
            by_cases hi : i < kg
            · have hiI : (i : Int) < (kg : Int) := by omega
              have hi0 : (0 : Int) ≤ i := by omega
              have hb2 : Below w.heap.size w wr := HB0.out.trans ((HT.out.1.trans (hR2.out.1.mono HT.out.1.size)).mono HB0.out.size)
              have htl : i < gl.length := by rw [← HKG.out]; exact hi
              obtain ⟨q, o, hA, -, hrg⟩ := (HIG.out.1.below hb2).at_ i htl
              obtain ⟨x, hx⟩ : ∃ x, x = gl[i] := ⟨_, rfl⟩
              rw [← hx] at hrg
              obtain ⟨w9, hw9⟩ : ∃ w9, w9 = wr.alloc (.cells #[.int .i64 x.a, .int .i64 x.n] 28) := ⟨_, rfl⟩
              obtain ⟨gx, hgx⟩ : ∃ g, g = wr.heap.size := ⟨_, rfl⟩
              have hb9 : Below wr.heap.size wr w9 := by rw [hw9]; exact (bel1 _ _).1
              have hk9 : w9.heap[gx]? = some (.cells #[.int .i64 x.a, .int .i64 x.n] 28) := by rw [hw9, hgx]; exact heap_alloc_new _ _
              have h89 : Below w8.heap.size w8 w9 := hR2.out.1.trans (hb9.mono hR2.out.1.size)
              have hxr : w9.rangeAt gx 0 [.int .i64 x.a, .int .i64 x.n] := ik_range hk9
              have hgr : w9.rangeAt g7 0 [.int .i64 1, .int .i64 nn] := HT.out.id HCF.out h89
              have hze := fun w => eqI w x.a x.n 1 nn
              have hdc : decide (x = ⟨1, nn⟩) = decide (x.a = 1 ∧ x.n = nn) := ik_dec _ _
              have HX := Lib.hid hx
              have HW9 := Lib.hid (And.intro hw9 hgx)
              have HRG := Lib.hid hrg
              have H89 := Lib.hid h89
              have HXR := Lib.hid hxr
              have HGR := Lib.hid hgr
              have HIL := Lib.hid (show ∀ a b : Value, (Tryz.prog.info? 28).map (·.size) = some [a, b].length from fun _ _ => ikInfo)
              have HAA := Lib.hid hA
              clear hb2 hrg hx hw9 hgx hb9 hk9 h89 hxr hgr hze hdc
              subst hA
              go_upto_region 20 with (first | (refine wpList_mid rfl 28 _ rfl q (o + i * 2) rfl [.int .i64 x.a, .int .i64 x.n] _ HRG.out ikUnd rfl (HIL.out _ _) ?_) | fail)
              rw [← HW9.out.1, ← HW9.out.2]
              have hze := fun w => eqI w x.a x.n 1 nn
              cases hid : decide (x.a = 1 ∧ x.n = nn) with
              | true =>
                rw [hid] at hze
                clear hid
                go_wp2_with (first | (refine wpList_mid rfl 28 _ rfl gx 0 rfl [.int .i64 x.a, .int .i64 x.n] _ HXR.out ikUnd rfl (HIL.out _ _) ?_) | (refine wpList_mid rfl 28 _ rfl g7 0 rfl [.int .i64 1, .int .i64 nn] _ HGR.out ikUnd rfl (HIL.out _ _) ?_) | fail)
                first | go_ret | go_ret2 | (refine bodyPost_ret (results_tmp rfl _ _ _) rfl ?_)
                have h := HT.out.1.trans (H89.out.mono HT.out.1.size)
                exact ⟨by kernel_rfl, HB0.out.trans (h.mono HB0.out.size)⟩
              | false =>
                rw [hid] at hze
                have HID := Lib.hid hid
                clear hid
                go_wp2_with (first | (refine wpList_mid rfl 28 _ rfl gx 0 rfl [.int .i64 x.a, .int .i64 x.n] _ HXR.out ikUnd rfl (HIL.out _ _) ?_) | (refine wpList_mid rfl 28 _ rfl g7 0 rfl [.int .i64 1, .int .i64 nn] _ HGR.out ikUnd rfl (HIL.out _ _) ?_) | fail)
                go_roundw
                case measure => simp [intOf]; omega
                case rel =>
                  refine ⟨i + 1, by omega, by go_num, Lib.hid ⟨H89.out, fun j hj hji e => ?_⟩⟩
                  by_cases hji' : j = i
                  · subst hji'
                    rw [← HX.out] at e
                    exact of_decide_eq_false HID.out (by rw [e]; exact ⟨rfl, rfl⟩)
                  · exact hR2.out.2 j hj (by omega) e
            · have hie : kg = i := by omega
              subst hie
              have hiI : ¬ ((kg : Int) < (kg : Int)) := by omega
              obtain ⟨w10, hw10⟩ : ∃ x, x = wr := ⟨_, rfl⟩
              have h10 := hR2.out.1
              have hng : (⟨1, nn⟩ : Ik) ∉ gl := fun h => by
                obtain ⟨j, hj, e⟩ := List.mem_iff_getElem.1 h
                exact hR2.out.2 j hj (by rw [HKG.out]; exact hj) e
              rw [← hw10] at h10 ⊢
              have hgl8 : IkG w8 (fun b => b < w8.heap.size) A1 c1 gl := by
                have h := HB0.out.trans (HT.out.1.mono HB0.out.size)
                exact (HIG.out.1.below h).mono (fun b hb => Nat.lt_of_lt_of_le hb h.size)
              have hsh : ∀ wx, Below w8.heap.size w8 wx → ∀ gv g, GoneV wx gv g → Calls Tryz.prog 15 #[.pointer (some ⟨p, 0, none⟩), gv] wx (IdsP wx (idsW (standW M g))) := fun wx hx gv g hg => by
                have hM := HMM.out.1
                exact shown_c (HT.out.2.1.below hx).z (by omega) gv g hg
              have HGL := Lib.hid hgl8
              have HSH := Lib.hid hsh
              have H10 := Lib.hid h10
              have HNG := Lib.hid hng
              clear hR2 HSJ hw10 h10 hng hgl8 hsh
              obtain ⟨S1, hS1⟩ : ∃ S, S = idsW (standW M (fun x => decide (x ∈ gl))) := ⟨_, rfl⟩
              obtain ⟨n1, hn1⟩ : ∃ n, n = S1.length := ⟨_, rfl⟩
              have HS1 := Lib.hid (And.intro hS1 hn1)
              clear hS1 hn1
              go_upto_region 24 with (first | (go_at_call 16; refine (HINC.out _ _ _ _).mono ?_; rintro e w11 ⟨rfl, hin⟩; have HIN11 := Lib.hid hin; clear hin) | (go_at_call 15; refine ((HSH.out w11 (in_at HGL.out HKG.out H10.out HIN11.out).2) _ _ (in_at HGL.out HKG.out H10.out HIN11.out).1).mono ?_; rintro e w12 ⟨A12, c12, rfl, hb12, ho12⟩; have H12 := Lib.hid (And.intro hb12 ho12); clear hb12 ho12) | fail)
              rw [← HS1.out.1, ← HS1.out.2]
              have hb11 : Below w8.heap.size w8 w11 := (in_at HGL.out HKG.out H10.out HIN11.out).2
              have hb12 : Below w8.heap.size w8 w12 := hb11.trans (H12.out.1.mono hb11.size)
              have hrg12 := HT.out.2.1.below hb12
              obtain ⟨mw, hmw⟩ : ∃ m, m = (⟨⟨1, nn⟩, y, idsW M⟩ : Wr) := ⟨_, rfl⟩
              have hbw : Below w.heap.size w w12 := HB0.out.trans ((HT.out.1.trans (hb12.mono HT.out.1.size)).mono HB0.out.size)
              have hpl := put_last (M := M) (by have := HMM.out.1; omega) HMM.out.2.2 (fun m hm => (HMM.out.2.1 m hm).2) mw (by rw [hmw]) (by rw [hmw, ← HNX.out]; exact next_may (fun m hm => (good_may (HMM.out.2.1 m hm).2).1)) (by rw [hmw, ← HNX.out]; exact next_bef HMM.out.2.2) (by rw [hmw]; exact HYR.out)
              have hik12 : IkG w12 (fun b => b < w12.heap.size) (some ⟨bi, oi, none⟩) c6 (idsW M) := HT.out.2.2.2.1.keep (fun b hb => ⟨hb12.block b (Nat.lt_trans hb.2 HT.out.2.2.2.2.2), Nat.lt_of_lt_of_le (Nat.lt_trans hb.2 HT.out.2.2.2.2.2) hb12.size⟩)
              have hwin : WrIn w12 w12.heap.size mw Ac cc (some ⟨bi, oi, none⟩) c6 := by
                rw [hmw]
                refine wrIn_of ⟨⟨(show i64 1 from by unfold i64; omega), HNO.out⟩, HYY.out.1, HYY.out.2.1, HYY.out.2.2.2, fun z hz => ?_⟩ (by show (idsW M).length ≤ 60; rw [← HKK.out.1]; omega) ((HYY.out.2.2.1.below hbw).more hbw.size) hik12
                obtain ⟨m, hm, rfl⟩ := List.mem_map.1 hz
                exact (HMM.out.2.1 m hm).1
              have hput : Calls Tryz.prog 13 #[.pointer (some ⟨p, 0, none⟩), .agg CF] w12 fun e w' => e = .returned (.int .i64 0) ∧ RgM w' p (n + 1) (M ++ [mw]) (fun b => (z0 ≤ b ∧ b < W.heap.size) ∨ (w12.heap.size ≤ b ∧ b < w'.heap.size)) ∧ KeepZ (fun b => z0 ≤ b ∧ b < W.heap.size) w12 w' := by
                have h := put_c hrg12 (by omega) (by have := HMM.out.1; omega) mw Ac cc (some ⟨bi, oi, none⟩) c6 hwin (Nat.le_refl _)
                rw [hmw, ← HCF.out, ← hmw] at h
                refine h.mono fun e w' h => ?_
                unfold PutP at h
                rw [hpl.1] at h
                exact h
              have hrx : w12.rangeAt g7 0 CF.toList := row_range_ ((hb12.block g7 HT.out.2.2.2.2.2).trans HT.out.2.2.1) _ _ (fun j v hv => by rw [Nat.zero_add, ← Array.getElem?_toList]; exact hv)
              have hinf : (Tryz.prog.info? 49).map (·.size) = some CF.toList.length := by rw [HCF.out]; exact (HIW.out _ _ _ _ _).2.1
              have HPUT := Lib.hid hput
              have HRX := Lib.hid (And.intro hrx hinf)
              have HPL := Lib.hid (And.intro hpl hmw)
              have HB12 := Lib.hid (And.intro hb11 (And.intro hb12 hbw))
              clear hb11 hb12 hrg12 hmw hbw hpl hik12 hwin hput hrx hinf
              go_upto_region 26 with (first | (refine wpList_mid rfl 49 _ rfl g7 0 rfl CF.toList _ HRX.out.1 undWr rfl HRX.out.2 ?_; simp only [Array.toArray_toList]) | (go_at_call 13; refine HPUT.out.mono ?_; rintro e w13 ⟨rfl, hr13, hk13⟩; have H13 := Lib.hid (And.intro hr13 hk13); clear hr13 hk13) | fail)
              have hzb : ∀ b, (z0 ≤ b ∧ b < W.heap.size) → W0.heap.size ≤ b := fun b hb => by have h1 := HZ.out.1; have h2 := HZ.out.2.size; omega
              have hb13 : Below W0.heap.size W0 w13 := keepZ_below (HT.out.1.trans (HB12.out.2.1.mono HT.out.1.size)) H13.out.2 hzb (HT.out.1.trans (HB12.out.2.1.mono HT.out.1.size)).size
              have hbw13 : Below w.heap.size w w13 := HB0.out.trans (hb13.mono HB0.out.size)
              have hgl13 : IkG w13 (fun b => b < w13.heap.size) A1 c1 gl := (HIG.out.1.below hbw13).mono (fun b hb => Nat.lt_of_lt_of_le hb hbw13.size)
              have hk13 : w13.heap[g7]? = some (.cells CF 49) := (H13.out.2.block g7 (Nat.lt_of_lt_of_le HT.out.2.2.2.2.2 HB12.out.2.1.size) (fun h => by have := HT.out.2.2.2.2.1; omega)).trans ((HB12.out.2.1.block g7 HT.out.2.2.2.2.2).trans HT.out.2.2.1)
              have hwas : IkG w13 (fun b => b < w13.heap.size) A12 c12 S1 := by
                have h := own_ikG H12.out.2 rfl
                rw [← HS1.out.1] at h
                exact h.keep (fun b hb => ⟨H13.out.2.block b hb.2 (fun h => by have h1 := hb.1; have h2 := HB12.out.1.size; have h3 := HT.out.2.2.2.2; omega), Nat.lt_of_lt_of_le hb.2 H13.out.2.size⟩)
              have hone : standW (M ++ [mw]) (fun x => decide (x ∈ gl)) = [mw] := stand_last (by rw [HPL.out.2]) (by rw [HPL.out.2]; exact decide_eq_false HNG.out) HPL.out.1.2.1 HPL.out.1.2.2
              have hback : standW (M ++ [mw]) (fun x => decide (x ∈ gl ++ [mw.id])) = standW M (fun x => decide (x ∈ gl)) := stand_back (fun m hm => by
                have hne : m.id ≠ mw.id := fun e => HPL.out.1.2.1 (List.mem_map.2 ⟨m, hm, e⟩)
                simp [hne]) (by simp)
              have hcalls : ∀ wx, Below w13.heap.size w13 wx → ∀ gv g, GoneV wx gv g → Calls Tryz.prog 15 #[.pointer (some ⟨p, 0, none⟩), gv] wx (IdsP wx (idsW (standW (M ++ [mw]) g))) ∧ Calls Tryz.prog 17 #[.pointer (some ⟨p, 0, none⟩), gv] wx (GetP wx (standW (M ++ [mw]) g)) := fun wx hx gv g hg => by
                have hM := HMM.out.1
                have h := (H13.out.1.below hx).z
                have hl : (M ++ [mw]).length ≤ 10000 := by rw [List.length_append, List.length_singleton]; omega
                exact ⟨shown_c h hl gv g hg, get_c h hl gv g hg⟩
              have HB13 := Lib.hid (And.intro hb13 hbw13)
              have HGL13 := Lib.hid hgl13
              have HK13 := Lib.hid hk13
              have HWAS := Lib.hid hwas
              have HONE := Lib.hid (And.intro hone hback)
              have HC13 := Lib.hid hcalls
              have HCI := Lib.hid (show ∀ (x : Ct) (A : Option Addr) (c : Nat), (Tryz.prog.info? 37).map (·.size) = some (contA x A c).size ∧ (Tryz.prog.info? 37).map (·.size) = some (contA x A c).toList.length ∧ (contA zCt none 0).size = (contA x A c).size ∧ (contA x A c).all (·.oneCell') = true from fun x A c => ⟨infC, infC, rfl, cont_one _ _ _⟩)
              clear hzb hb13 hbw13 hgl13 hk13 hwas hone hback hcalls
              go_upto_region 27 with (first | (go_at_call 16; refine (HINC.out _ _ _ _).mono ?_; rintro e w14 ⟨rfl, hin⟩; have HIN14 := Lib.hid hin; clear hin) | (go_at_call 17; refine ((HC13.out w14 (in_at HGL13.out HKG.out (Below.refl _ _) HIN14.out).2 _ _ (in_at HGL13.out HKG.out (Below.refl _ _) HIN14.out).1).2).mono ?_; intro e w15 hgp; obtain ⟨A15, c15, Ao15, co15, rfl, hs15, hb15⟩ := hgp.one HONE.out.1; clear hgp; have H15 := Lib.hid (And.intro hs15 hb15); clear hs15 hb15; obtain ⟨CA, hCA⟩ : ∃ C, C = contA mw.x A15 c15 := ⟨_, rfl⟩; have hia := HCI.out mw.x A15 c15; rw [← hCA] at hia ⊢; have HCA := Lib.hid (And.intro hCA hia); clear hCA hia) | (refine wpList_contVar rfl rfl w15.heap.size rfl ?_) | (refine wpList_storeFresh (w := w15) rfl 37 _ _ rfl w15.heap.size rfl CA rfl rfl HCA.out.2.1 HCA.out.2.2.2.1 HCA.out.2.2.2.2 ?_) | fail)
              obtain ⟨w16, hw16⟩ : ∃ x, x = w15.alloc (.cells CA 37) := ⟨_, rfl⟩
              obtain ⟨g16, hg16⟩ : ∃ g, g = w15.heap.size := ⟨_, rfl⟩
              rw [← hw16, ← hg16]
              have hb14 : Below w13.heap.size w13 w14 := (in_at HGL13.out HKG.out (Below.refl _ _) HIN14.out).2
              have hb15 : Below w13.heap.size w13 w15 := hb14.trans (H15.out.2.mono hb14.size)
              have hb1516 : Below w15.heap.size w15 w16 := by rw [hw16]; exact (bel1 _ _).1
              have hb16 : Below w13.heap.size w13 w16 := hb15.trans (hb1516.mono hb15.size)
              have hk16 : w16.heap[g16]? = some (.cells CA 37) := by rw [hw16, hg16]; exact heap_alloc_new _ _
              have H16 := Lib.hid (And.intro hb16 (And.intro hk16 hb1516))
              clear hw16 hg16 hb14 hb15 hb1516 hb16 hk16
              go_upto_region 28 with (first | (go_at_call 16; refine (HINC.out _ _ _ _).mono ?_; rintro e w17 ⟨rfl, hin⟩; have HIN17 := Lib.hid hin; clear hin) | (go_at_call 15; refine ((HC13.out w17 (in_at HGL13.out HKG.out H16.out.1 HIN17.out).2 _ _ (in_at HGL13.out HKG.out H16.out.1 HIN17.out).1).1).mono ?_; intro e w18 hip; obtain ⟨A18, c18, rfl, hb18, hi18⟩ := hip.one HONE.out.1; clear hip; have H18 := Lib.hid (And.intro hb18 hi18); clear hb18 hi18) | fail)
              have hb1618 : Below w16.heap.size w16 w18 := by
                have h : Below w16.heap.size w16 w17 := by rw [HIN17.out]; exact (bel1 _ _).1
                exact h.trans (H18.out.1.mono h.size)
              have hb18 : Below w13.heap.size w13 w18 := H16.out.1.trans (hb1618.mono H16.out.1.size)
              have hbw18 : Below w.heap.size w w18 := HB13.out.2.trans (hb18.mono HB13.out.2.size)
              have hbo18 : Below W0.heap.size W0 w18 := HB13.out.1.trans (hb18.mono HB13.out.1.size)
              have hb1518 : Below w15.heap.size w15 w18 := H16.out.2.2.trans (hb1618.mono H16.out.2.2.size)
              obtain ⟨q8, o8, hA18, hq8, hr8⟩ := H18.out.2.at_ 0 (by show 0 < 1; omega)
              have hrows : ∀ wz, Below w18.heap.size w18 wz → wz.rangeAt g16 0 CA.toList ∧ wz.rangeAt g0 0 CC.toList ∧ wz.rangeAt q8 (o8 + 0 * 2) mw.id.cs ∧ wz.rangeAt g7 0 mw.id.cs := fun wz hz => by
                refine ⟨row_range_ ((hz.block g16 (Nat.lt_of_lt_of_le (Array.getElem?_eq_some_iff.1 H16.out.2.1).1 hb1618.size)).trans ((hb1618.block g16 (Array.getElem?_eq_some_iff.1 H16.out.2.1).1).trans H16.out.2.1)) _ _ (fun j v hv => by rw [Nat.zero_add, ← Array.getElem?_toList]; exact hv), HCC.out wz (hbo18.trans (hz.mono hbo18.size)), fun j v hv => (World.cell?_of_block (a := ⟨q8, o8 + 0 * 2 + j, none⟩) (hz.block q8 hq8)).trans (hr8 j v hv), ?_⟩
                have hk := (hz.block g7 (Nat.lt_of_lt_of_le (Array.getElem?_eq_some_iff.1 HK13.out).1 hb18.size)).trans ((hb18.block g7 (Array.getElem?_eq_some_iff.1 HK13.out).1).trans HK13.out)
                rw [HCF.out, ← HPL.out.2] at hk
                exact (wr_rows hk).1
              have hmx : mw.x = y := by rw [HPL.out.2]
              have hsm : ∀ wz, Below w18.heap.size w18 wz → Calls Tryz.prog 18 #[.agg CA, .agg CC] wz fun e w' => e = .returned (.bool true) ∧ Below wz.heap.size wz w' := fun wz hz => by
                have h1 := hbw18.trans (hz.mono hbw18.size)
                have h2 := hb1518.trans (hz.mono hb1518.size)
                have h := rcsame_c y y wz wz.heap.size A15 Ac c15 cc HYY.out.2.1 (by have := H15.out.1; rw [hmx] at this; exact (this.below h2).more h2.size) HYY.out.2.1 ((HYY.out.2.2.1.below h1).more h1.size) (Nat.le_refl _)
                rw [sameC_self] at h
                unfold contV at h
                rw [HCA.out.1, HCCE.out, hmx]
                exact h
              have HRW := Lib.hid hrows
              have HSM2 := Lib.hid hsm
              have HB18 := Lib.hid (And.intro hb18 (And.intro hbw18 hbo18))
              clear hb1618 hb18 hbw18 hbo18 hb1518 hq8 hr8 hrows hmx hsm
              subst hA18
              refine wp_region_held_drew (S := fun wx => Below w18.heap.size w18 wx) (by kernel_rfl) (Below.refl _ _).drew (fun hHeld => ?_)
              obtain ⟨wa, hwa⟩ : ∃ x, x = w18.drew := ⟨_, rfl⟩
              rw [← hwa] at hHeld ⊢
              clear hwa
              refine wpAnyH_take (i := 0) (v := .agg CA.toList.toArray) rfl (by kernel_rfl) (by kernel_rfl) (by kernel_rfl) (fun _ _ _ h => h) (yieldsIf_load_mid (by kernel_rfl) 37 _ rfl g16 0 rfl CA.toList _ (fun _ hS => (HRW.out _ hS).1) undC rfl HCA.out.2.2.1) hHeld ?_
              (try simp only [Act.put, List.getElem_toArray, List.getElem_cons_succ, List.getElem_cons_zero, List.setIfInBounds_toArray, List.set_cons_zero, List.set_cons_succ])
              refine wpAnyH_take (i := 1) (v := .agg CC.toList.toArray) rfl (by kernel_rfl) (by kernel_rfl) (by kernel_rfl) (fun _ _ _ h => h) (yieldsIf_load_mid (by kernel_rfl) 37 _ rfl g0 0 rfl CC.toList _ (fun _ hS => (HRW.out _ hS).2.1) undC rfl HIC.out.1) hHeld ?_
              (try simp only [Act.put, List.getElem_toArray, List.getElem_cons_succ, List.getElem_cons_zero, List.setIfInBounds_toArray, List.set_cons_zero, List.set_cons_succ])
              refine wpAnyH_ready (rs := [2]) (by kernel_rfl) (by simp) ?_
              refine AllReadyH.cons rfl (fun K hK => ?_) AllReadyH.nil
              go_simp
              try simp only [Array.toArray_toList]
              refine (HSM2.out wa hHeld).mono ?_
              rintro e wb ⟨rfl, hbb⟩
              try go_simp
              have hbb2 : Below w18.heap.size w18 wb := hHeld.trans (hbb.mono hHeld.size)
              refine hK.out _ _ hbb2 (fun hHeld1 => ?_)
              clear hK K hHeld hbb2
              have hHeld := hHeld1
              clear hHeld1
              (try simp only [Act.put, List.getElem_toArray, List.getElem_cons_succ, List.getElem_cons_zero, List.setIfInBounds_toArray, List.set_cons_zero, List.set_cons_succ])
              clear hbb
              refine wpAnyH_take (i := 3) (v := .bool false) rfl (by kernel_rfl) (by kernel_rfl) (by kernel_rfl) (fun _ _ _ h => h) (Or.inl ⟨by kernel_rfl, fun _ hS => by kernel_rfl⟩) hHeld ?_
              (try simp only [Act.put, List.getElem_toArray, List.getElem_cons_succ, List.getElem_cons_zero, List.setIfInBounds_toArray, List.set_cons_zero, List.set_cons_succ])
              refine wpAnyH_take (i := 4) (v := .bool false) rfl (by kernel_rfl) (by kernel_rfl) (by kernel_rfl) (fun _ _ _ h => h) (Or.inl ⟨by kernel_rfl, fun _ hS => by kernel_rfl⟩) hHeld ?_
              (try simp only [Act.put, List.getElem_toArray, List.getElem_cons_succ, List.getElem_cons_zero, List.setIfInBounds_toArray, List.set_cons_zero, List.set_cons_succ])
              refine wpAnyH_take (i := 5) (v := .slice Ao15 0 co15) rfl (by kernel_rfl) (by kernel_rfl) (by kernel_rfl) (fun _ _ _ h => h) (Or.inl ⟨by kernel_rfl, fun _ hS => by kernel_rfl⟩) hHeld ?_
              (try simp only [Act.put, List.getElem_toArray, List.getElem_cons_succ, List.getElem_cons_zero, List.setIfInBounds_toArray, List.set_cons_zero, List.set_cons_succ])
              refine wpAnyH_take (i := 6) (v := .int .i64 0) rfl (by kernel_rfl) (by kernel_rfl) (by kernel_rfl) (fun _ _ _ h => h) (Or.inl ⟨by kernel_rfl, fun _ hS => by kernel_rfl⟩) hHeld ?_
              (try simp only [Act.put, List.getElem_toArray, List.getElem_cons_succ, List.getElem_cons_zero, List.setIfInBounds_toArray, List.set_cons_zero, List.set_cons_succ])
              refine wpAnyH_take (i := 7) (v := .bool false) rfl (by kernel_rfl) (by kernel_rfl) (by kernel_rfl) (fun _ _ _ h => h) (Or.inl ⟨by kernel_rfl, fun _ hS => by kernel_rfl⟩) hHeld ?_
              (try simp only [Act.put, List.getElem_toArray, List.getElem_cons_succ, List.getElem_cons_zero, List.setIfInBounds_toArray, List.set_cons_zero, List.set_cons_succ])
              refine wpAnyH_take (i := 8) (v := .bool false) rfl (by kernel_rfl) (by kernel_rfl) (by kernel_rfl) (fun _ _ _ h => h) (Or.inl ⟨by kernel_rfl, fun _ hS => by kernel_rfl⟩) hHeld ?_
              (try simp only [Act.put, List.getElem_toArray, List.getElem_cons_succ, List.getElem_cons_zero, List.setIfInBounds_toArray, List.set_cons_zero, List.set_cons_succ])
              refine wpAnyH_take (i := 9) (v := .bool false) rfl (by kernel_rfl) (by kernel_rfl) (by kernel_rfl) (fun _ _ _ h => h) (Or.inl ⟨by kernel_rfl, fun _ hS => by kernel_rfl⟩) hHeld ?_
              (try simp only [Act.put, List.getElem_toArray, List.getElem_cons_succ, List.getElem_cons_zero, List.setIfInBounds_toArray, List.set_cons_zero, List.set_cons_succ])
              refine wpAnyH_take (i := 10) (v := .slice (some ⟨q8, o8, none⟩) 1 c18) rfl (by kernel_rfl) (by kernel_rfl) (by kernel_rfl) (fun _ _ _ h => h) (Or.inl ⟨by kernel_rfl, fun _ hS => by kernel_rfl⟩) hHeld ?_
              (try simp only [Act.put, List.getElem_toArray, List.getElem_cons_succ, List.getElem_cons_zero, List.setIfInBounds_toArray, List.set_cons_zero, List.set_cons_succ])
              refine wpAnyH_take (i := 11) (v := .int .i64 1) rfl (by kernel_rfl) (by kernel_rfl) (by kernel_rfl) (fun _ _ _ h => h) (Or.inl ⟨by kernel_rfl, fun _ hS => by kernel_rfl⟩) hHeld ?_
              (try simp only [Act.put, List.getElem_toArray, List.getElem_cons_succ, List.getElem_cons_zero, List.setIfInBounds_toArray, List.set_cons_zero, List.set_cons_succ])
              refine wpAnyH_take (i := 12) (v := .bool false) rfl (by kernel_rfl) (by kernel_rfl) (by kernel_rfl) (fun _ _ _ h => h) (Or.inl ⟨by kernel_rfl, fun _ hS => by kernel_rfl⟩) hHeld ?_
              (try simp only [Act.put, List.getElem_toArray, List.getElem_cons_succ, List.getElem_cons_zero, List.setIfInBounds_toArray, List.set_cons_zero, List.set_cons_succ])
              refine wpAnyH_take (i := 13) (v := .bool false) rfl (by kernel_rfl) (by kernel_rfl) (by kernel_rfl) (fun _ _ _ h => h) (Or.inl ⟨by kernel_rfl, fun _ hS => by kernel_rfl⟩) hHeld ?_
              (try simp only [Act.put, List.getElem_toArray, List.getElem_cons_succ, List.getElem_cons_zero, List.setIfInBounds_toArray, List.set_cons_zero, List.set_cons_succ])
              refine wpAnyH_take (i := 14) (v := .bool false) rfl (by kernel_rfl) (by kernel_rfl) (by kernel_rfl) (fun _ _ _ h => h) (Or.inl ⟨by kernel_rfl, fun _ hS => by kernel_rfl⟩) hHeld ?_
              (try simp only [Act.put, List.getElem_toArray, List.getElem_cons_succ, List.getElem_cons_zero, List.setIfInBounds_toArray, List.set_cons_zero, List.set_cons_succ])
              refine wpAnyH_take (i := 15) (v := .slice (some ⟨q8, o8, none⟩) 1 c18) rfl (by kernel_rfl) (by kernel_rfl) (by kernel_rfl) (fun _ _ _ h => h) (Or.inl ⟨by kernel_rfl, fun _ hS => by kernel_rfl⟩) hHeld ?_
              (try simp only [Act.put, List.getElem_toArray, List.getElem_cons_succ, List.getElem_cons_zero, List.setIfInBounds_toArray, List.set_cons_zero, List.set_cons_succ])
              refine wpAnyH_take (i := 16) (v := .pointer (some ⟨q8, o8 + 0 * 2, none⟩)) rfl (by kernel_rfl) (by kernel_rfl) (by kernel_rfl) (fun _ _ _ h => h) (Or.inl ⟨by kernel_rfl, fun _ hS => ix_atIo _ _ rfl q8 o8 1 c18 0 rfl rfl (by omega)⟩) hHeld ?_
              (try simp only [Act.put, List.getElem_toArray, List.getElem_cons_succ, List.getElem_cons_zero, List.setIfInBounds_toArray, List.set_cons_zero, List.set_cons_succ])
              refine wpAnyH_take (i := 17) (v := .agg mw.id.cs.toArray) rfl (by kernel_rfl) (by kernel_rfl) (by kernel_rfl) (fun _ _ _ h => h) (yieldsIf_load_mid (by kernel_rfl) 28 _ rfl q8 (o8 + 0 * 2) rfl mw.id.cs _ (fun _ hS => (HRW.out _ hS).2.2.1) ikUnd rfl (HIK.out _)) hHeld ?_
              (try simp only [Act.put, List.getElem_toArray, List.getElem_cons_succ, List.getElem_cons_zero, List.setIfInBounds_toArray, List.set_cons_zero, List.set_cons_succ])
              refine wpAnyH_take (i := 18) (v := .pointer (some ⟨g7, 0, none⟩)) rfl (by kernel_rfl) (by kernel_rfl) (by kernel_rfl) (fun _ _ _ h => h) (Or.inl ⟨by kernel_rfl, fun _ hS => by kernel_rfl⟩) hHeld ?_
              (try simp only [Act.put, List.getElem_toArray, List.getElem_cons_succ, List.getElem_cons_zero, List.setIfInBounds_toArray, List.set_cons_zero, List.set_cons_succ])
              refine wpAnyH_take (i := 19) (v := .agg mw.id.cs.toArray) rfl (by kernel_rfl) (by kernel_rfl) (by kernel_rfl) (fun _ _ _ h => h) (yieldsIf_load_mid (by kernel_rfl) 28 _ rfl g7 0 rfl mw.id.cs _ (fun _ hS => (HRW.out _ hS).2.2.2) ikUnd rfl (HIK.out _)) hHeld ?_
              (try simp only [Act.put, List.getElem_toArray, List.getElem_cons_succ, List.getElem_cons_zero, List.setIfInBounds_toArray, List.set_cons_zero, List.set_cons_succ])
              refine wpAnyH_take (i := 20) (v := .bool false) rfl (by kernel_rfl) (by kernel_rfl) (by kernel_rfl) (fun _ _ _ h => h) (Or.inl ⟨by kernel_rfl, fun _ hS => ik_ne_run _ _ rfl mw.id mw.id rfl rfl (by simp)⟩) hHeld ?_
              (try simp only [Act.put, List.getElem_toArray, List.getElem_cons_succ, List.getElem_cons_zero, List.setIfInBounds_toArray, List.set_cons_zero, List.set_cons_succ])
              refine wpAnyH_take (i := 21) (v := .bool false) rfl (by kernel_rfl) (by kernel_rfl) (by kernel_rfl) (fun _ _ _ h => h) (Or.inl ⟨by kernel_rfl, fun _ hS => by kernel_rfl⟩) hHeld ?_
              (try simp only [Act.put, List.getElem_toArray, List.getElem_cons_succ, List.getElem_cons_zero, List.setIfInBounds_toArray, List.set_cons_zero, List.set_cons_succ])
              have HE28 := Lib.hid hHeld
              refine wpAnyH_done (by kernel_rfl) ?_ _
              clear hHeld
              go_upto_region 30 with (fail)
              obtain ⟨w19, hw19⟩ : ∃ x, x = wb := ⟨_, rfl⟩
              have h19 : Below w18.heap.size w18 w19 := by rw [hw19]; exact HE28.out
              rw [← hw19]
              have h1319 : Below w13.heap.size w13 w19 := HB18.out.1.trans (h19.mono HB18.out.1.size)
              have H19 := Lib.hid (And.intro h1319 (HB18.out.2.1.trans (h19.mono HB18.out.2.1.size)))
              have HGL19 := Lib.hid (HGL13.out.below h1319)
              have hrow7 : ∀ wz, Below w19.heap.size w19 wz → wz.rangeAt g7 0 mw.id.cs := fun wz hz => (HRW.out wz (h19.trans (hz.mono h19.size))).2.2.2
              have HR7 := Lib.hid hrow7
              have hsh9 : ∀ wx w0 A c, Below w19.heap.size w19 w0 → IkG w0 (fun b => b < w0.heap.size) A c (gl ++ [mw.id]) → wx = w0.alloc (.cells #[.slice A (kg + 1) c] 38) → Below w19.heap.size w19 wx ∧ Calls Tryz.prog 15 #[.pointer (some ⟨p, 0, none⟩), .func (.func 39) #[] #[.pointer (some ⟨w0.heap.size, 0, none⟩)]] wx (IdsP wx S1) := fun wx w0 A c hz hi he => by
                have hl : kg + 1 = (gl ++ [mw.id]).length := by rw [List.length_append, List.length_singleton, HKG.out]
                have hin := in_at hi hl (Below.refl _ _) he
                have hx : Below w19.heap.size w19 wx := hz.trans (hin.2.mono hz.size)
                refine ⟨hx, ?_⟩
                have h := (HC13.out wx (h1319.trans (hx.mono h1319.size)) _ _ hin.1).1
                rw [HONE.out.2, ← HS1.out.1] at h
                exact h
              have HS9 := Lib.hid hsh9
              clear hw19 h19 h1319 hrow7 hsh9 HRW HSM2 HE28 HC13 HONE HPUT HRX
              go_cut [18] (fun v wx => ∃ A20 c20, v = .slice A20 n1 c20 ∧ Hid (Below w19.heap.size w19 wx ∧ IkG wx (fun b => b < wx.heap.size) A20 c20 S1))
              case first =>
               refine wp_region_held_drew (S := fun wx => Below w19.heap.size w19 wx) (by kernel_rfl) (Below.refl _ _).drew (fun hHeld => ?_)
               obtain ⟨wa, hwa⟩ : ∃ x, x = w19.drew := ⟨_, rfl⟩
               rw [← hwa] at hHeld ⊢
               clear hwa
               refine wpAnyH_take (i := 0) (v := .pointer (some ⟨p, 0, none⟩)) rfl (by kernel_rfl) (by kernel_rfl) (by kernel_rfl) (fun _ _ _ h => h) (Or.inl ⟨by kernel_rfl, fun _ hS => by kernel_rfl⟩) hHeld ?_
               (try simp only [Act.put, List.getElem_toArray, List.getElem_cons_succ, List.getElem_cons_zero, List.setIfInBounds_toArray, List.set_cons_zero, List.set_cons_succ])
               refine wpAnyH_take (i := 2) (v := .slice A1 kg c1) rfl (by kernel_rfl) (by kernel_rfl) (by kernel_rfl) (fun _ _ _ h => h) (Or.inl ⟨by kernel_rfl, fun _ hS => by kernel_rfl⟩) hHeld ?_
               (try simp only [Act.put, List.getElem_toArray, List.getElem_cons_succ, List.getElem_cons_zero, List.setIfInBounds_toArray, List.set_cons_zero, List.set_cons_succ])
               refine wpAnyH_take (i := 4) (v := .pointer (some ⟨g7, 0, none⟩)) rfl (by kernel_rfl) (by kernel_rfl) (by kernel_rfl) (fun _ _ _ h => h) (Or.inl ⟨by kernel_rfl, fun _ hS => by kernel_rfl⟩) hHeld ?_
               (try simp only [Act.put, List.getElem_toArray, List.getElem_cons_succ, List.getElem_cons_zero, List.setIfInBounds_toArray, List.set_cons_zero, List.set_cons_succ])
               refine wpAnyH_take (i := 5) (v := .agg mw.id.cs.toArray) rfl (by kernel_rfl) (by kernel_rfl) (by kernel_rfl) (fun _ _ _ h => h) (yieldsIf_load_mid (by kernel_rfl) 28 _ rfl g7 0 rfl mw.id.cs _ (fun _ hS => HR7.out _ hS) ikUnd rfl (HIK.out _)) hHeld ?_
               (try simp only [Act.put, List.getElem_toArray, List.getElem_cons_succ, List.getElem_cons_zero, List.setIfInBounds_toArray, List.set_cons_zero, List.set_cons_succ])
               refine wpAnyH_ready (rs := [1, 6]) (by kernel_rfl) (by simp) ?_
               refine AllReadyH.cons rfl (fun K hK => ?_) (AllReadyH.cons rfl (fun K hK => ?_) AllReadyH.nil)
               · skip
                 obtain ⟨wb1, hwb1⟩ : ∃ x, x = wa.alloc (.cells #[] 28) := ⟨_, rfl⟩
                 obtain ⟨g1, hg1⟩ : ∃ x, x = wa.heap.size := ⟨_, rfl⟩
                 have hbn : Below wa.heap.size wa wb1 := by rw [hwb1]; exact (bel1 _ _).1
                 have hown : wb1.ownsRow w19.heap.size 28 2 (.slice (some ⟨g1, 0, none⟩) 0 0) 0 (ikCells []) := by rw [hwb1, hg1]; exact own_none _ _ hHeld.size
                 refine step_of rfl (wp_noIds rfl ?_)
                 rw [← hwb1, ← hg1]
                 have hbn2 := hHeld.trans (hbn.mono hHeld.size)
                 refine hK.out _ _ hbn2 (fun hHeld1 => ?_)
                 clear hK K hHeld hbn2
                 have hHeld := hHeld1
                 clear hHeld1
                 (try simp only [Act.put, List.getElem_toArray, List.getElem_cons_succ, List.getElem_cons_zero, List.setIfInBounds_toArray, List.set_cons_zero, List.set_cons_succ])
                 clear hbn hwb1 hg1
                 refine wpAnyH_ready (rs := [3, 6]) (by kernel_rfl) (by simp) ?_
                 refine AllReadyH.cons rfl (fun K hK => ?_) (AllReadyH.cons rfl (fun K hK => ?_) AllReadyH.nil)
                 · skip
                   refine step_of rfl (wp_append_ik (.tmp 127) (.tmp 128) rfl w19.heap.size (.slice (some ⟨g1, 0, none⟩) 0 0) 0 kg kg [] gl rfl hown A1 c1 _ rfl (HGL19.out.below (hHeld.mono H19.out.1.size)) HKG.out HIG.out.2 (by omega) (by omega) hHeld.size ?_)
                   intro A3 c3 wb3 ho3 hg3
                   have hbn2 : Below w19.heap.size w19 wb3 := hHeld.grown hg3 hHeld.size (own_base hown)
                   refine hK.out _ _ hbn2 (fun hHeld1 => ?_)
                   clear hK K hHeld hbn2
                   have hHeld := hHeld1
                   clear hHeld1
                   (try simp only [Act.put, List.getElem_toArray, List.getElem_cons_succ, List.getElem_cons_zero, List.setIfInBounds_toArray, List.set_cons_zero, List.set_cons_succ])
                   clear hown hg3
                   have hown := ho3
                   clear ho3
                   refine wpAnyH_ready (rs := [6]) (by kernel_rfl) (by simp) ?_
                   refine AllReadyH.cons rfl (fun K hK => ?_) AllReadyH.nil
                   obtain ⟨wb6, hwb6⟩ : ∃ x, x = wb3.alloc (.cells mw.id.cs.toArray 28) := ⟨_, rfl⟩
                   obtain ⟨g6, hg6⟩ : ∃ x, x = wb3.heap.size := ⟨_, rfl⟩
                   have hbn : Below wb3.heap.size wb3 wb6 := by rw [hwb6]; exact (bel1 _ _).1
                   have hown2 : ApS wb6 w19.heap.size (.slice A3 kg c3) kg ([] ++ gl) g6 mw.id := by rw [hwb6, hg6]; exact ApS.first hown mw.id
                   refine step_oneId (wanted_none rfl) 131 rfl mw.id.cs.toArray rfl rfl ?_
                   rw [← hwb6, ← hg6]
                   have hbn2 := hHeld.trans (hbn.mono hHeld.size)
                   refine hK.out _ _ hbn2 (fun hHeld1 => ?_)
                   clear hK K hHeld hbn2
                   have hHeld := hHeld1
                   clear hHeld1
                   (try simp only [Act.put, List.getElem_toArray, List.getElem_cons_succ, List.getElem_cons_zero, List.setIfInBounds_toArray, List.set_cons_zero, List.set_cons_succ])
                   clear hbn hwb6 hg6
                   clear hown
                   have hown := hown2
                   clear hown2
                   refine wpAnyH_ready (rs := [7]) (by kernel_rfl) (by simp) ?_
                   refine AllReadyH.cons rfl (fun K hK => ?_) AllReadyH.nil
                   refine step_of rfl (wp_append_ik (.tmp 129) (.tmp 132) rfl w19.heap.size (.slice A3 kg c3) kg 1 (kg + 1) ([] ++ gl) [mw.id] rfl hown.1 (some ⟨g6, 0, none⟩) 1 _ rfl (ikG_one hown.2.1) rfl (fun e => by cases e) rfl (by omega) hHeld.size ?_)
                   intro A7 c7 wb7 ho7 hg7
                   have hbn2 : Below w19.heap.size w19 wb7 := hHeld.grown hg7 hHeld.size (own_base hown.1)
                   have hik7 : IkG wb7 (fun b => b < wb7.heap.size) A7 c7 (gl ++ [mw.id]) := (own_ikG ho7 (by rw [List.nil_append, List.length_append, List.length_singleton, HKG.out])).mono (fun k hk => hk.2)
                   refine hK.out _ _ hbn2 (fun hHeld1 => ?_)
                   clear hK K hHeld hbn2
                   have hHeld := hHeld1
                   clear hHeld1
                   (try simp only [Act.put, List.getElem_toArray, List.getElem_cons_succ, List.getElem_cons_zero, List.setIfInBounds_toArray, List.set_cons_zero, List.set_cons_succ])
                   clear hg7 ho7
                   refine wpAnyH_ready (rs := [8]) (by kernel_rfl) (by simp) ?_
                   refine AllReadyH.cons rfl (fun K hK => ?_) AllReadyH.nil
                   go_simp
                   refine (HINC.out _ _ _ _).mono ?_
                   rintro e w7b ⟨rfl, hin⟩
                   have HINB := Lib.hid hin
                   clear hin
                   try go_simp
                   have h9 := HS9.out w7b wb7 A7 c7 hHeld hik7 HINB.out
                   have hb9 := h9.1
                   have H9 := Lib.hid h9.2
                   clear h9
                   refine hK.out _ _ hb9 (fun hHeld1 => ?_)
                   clear hK K hHeld hb9
                   have hHeld := hHeld1
                   clear hHeld1
                   (try simp only [Act.put, List.getElem_toArray, List.getElem_cons_succ, List.getElem_cons_zero, List.setIfInBounds_toArray, List.set_cons_zero, List.set_cons_succ])
                   refine wpAnyH_ready (rs := [9]) (by kernel_rfl) (by simp) ?_
                   refine AllReadyH.cons rfl (fun K hK => ?_) AllReadyH.nil
                   go_simp
                   refine H9.out.mono ?_
                   rintro e w7c ⟨A20, c20, rfl, hb20, ho20⟩
                   try go_simp
                   have hik20 := (own_ikG ho20 rfl).mono (fun (k : Nat) hk => hk.2)
                   have hb21 := hHeld.trans (hb20.mono hHeld.size)
                   rw [← HS1.out.2]
                   refine hK.out _ _ hb21 (fun hHeld1 => ?_)
                   clear hK K hHeld hb21
                   have hHeld := hHeld1
                   clear hHeld1
                   (try simp only [Act.put, List.getElem_toArray, List.getElem_cons_succ, List.getElem_cons_zero, List.setIfInBounds_toArray, List.set_cons_zero, List.set_cons_succ])
                   refine wpAnyH_take (i := 10) (v := .slice A20 n1 c20) rfl (by kernel_rfl) (by kernel_rfl) (by kernel_rfl) (fun _ _ _ h => h) (Or.inl ⟨by kernel_rfl, fun _ hS => by kernel_rfl⟩) hHeld ?_
                   (try simp only [Act.put, List.getElem_toArray, List.getElem_cons_succ, List.getElem_cons_zero, List.setIfInBounds_toArray, List.set_cons_zero, List.set_cons_succ])
                   have HE30 := Lib.hid hHeld
                   refine wpAnyH_done (by kernel_rfl) ?_ _
                   clear hHeld
                   go_wp2_with fail
                   go_meet
                   exact ⟨A20, c20, rfl, Lib.hid ⟨HE30.out, hik20⟩⟩
                 · skip
                   obtain ⟨wb6, hwb6⟩ : ∃ x, x = wb1.alloc (.cells mw.id.cs.toArray 28) := ⟨_, rfl⟩
                   obtain ⟨g6, hg6⟩ : ∃ x, x = wb1.heap.size := ⟨_, rfl⟩
                   have hbn : Below wb1.heap.size wb1 wb6 := by rw [hwb6]; exact (bel1 _ _).1
                   have hown2 : ApS wb6 w19.heap.size (.slice (some ⟨g1, 0, none⟩) 0 0) 0 ([]) g6 mw.id := by rw [hwb6, hg6]; exact ApS.first hown mw.id
                   refine step_oneId (wanted_none rfl) 131 rfl mw.id.cs.toArray rfl rfl ?_
                   rw [← hwb6, ← hg6]
                   have hbn2 := hHeld.trans (hbn.mono hHeld.size)
                   refine hK.out _ _ hbn2 (fun hHeld1 => ?_)
                   clear hK K hHeld hbn2
                   have hHeld := hHeld1
                   clear hHeld1
                   (try simp only [Act.put, List.getElem_toArray, List.getElem_cons_succ, List.getElem_cons_zero, List.setIfInBounds_toArray, List.set_cons_zero, List.set_cons_succ])
                   clear hbn hwb6 hg6
                   clear hown
                   have hown := hown2
                   clear hown2
                   refine wpAnyH_ready (rs := [3]) (by kernel_rfl) (by simp) ?_
                   refine AllReadyH.cons rfl (fun K hK => ?_) AllReadyH.nil
                   refine step_of rfl (wp_append_ik (.tmp 127) (.tmp 128) rfl w19.heap.size (.slice (some ⟨g1, 0, none⟩) 0 0) 0 kg kg [] gl rfl hown.1 A1 c1 _ rfl (HGL19.out.below (hHeld.mono H19.out.1.size)) HKG.out HIG.out.2 (by omega) (by omega) hHeld.size ?_)
                   intro A3 c3 wb3 ho3 hg3
                   have hbn2 : Below w19.heap.size w19 wb3 := hHeld.grown hg3 hHeld.size (own_base hown.1)
                   have hsix := hown.beside hg3
                   refine hK.out _ _ hbn2 (fun hHeld1 => ?_)
                   clear hK K hHeld hbn2
                   have hHeld := hHeld1
                   clear hHeld1
                   (try simp only [Act.put, List.getElem_toArray, List.getElem_cons_succ, List.getElem_cons_zero, List.setIfInBounds_toArray, List.set_cons_zero, List.set_cons_succ])
                   clear hown hg3
                   have hown := ho3
                   clear ho3
                   refine wpAnyH_ready (rs := [7]) (by kernel_rfl) (by simp) ?_
                   refine AllReadyH.cons rfl (fun K hK => ?_) AllReadyH.nil
                   refine step_of rfl (wp_append_ik (.tmp 129) (.tmp 132) rfl w19.heap.size (.slice A3 kg c3) kg 1 (kg + 1) ([] ++ gl) [mw.id] rfl hown (some ⟨g6, 0, none⟩) 1 _ rfl (ikG_one hsix) rfl (fun e => by cases e) rfl (by omega) hHeld.size ?_)
                   intro A7 c7 wb7 ho7 hg7
                   have hbn2 : Below w19.heap.size w19 wb7 := hHeld.grown hg7 hHeld.size (own_base hown)
                   have hik7 : IkG wb7 (fun b => b < wb7.heap.size) A7 c7 (gl ++ [mw.id]) := (own_ikG ho7 (by rw [List.nil_append, List.length_append, List.length_singleton, HKG.out])).mono (fun k hk => hk.2)
                   refine hK.out _ _ hbn2 (fun hHeld1 => ?_)
                   clear hK K hHeld hbn2
                   have hHeld := hHeld1
                   clear hHeld1
                   (try simp only [Act.put, List.getElem_toArray, List.getElem_cons_succ, List.getElem_cons_zero, List.setIfInBounds_toArray, List.set_cons_zero, List.set_cons_succ])
                   clear hg7 ho7
                   refine wpAnyH_ready (rs := [8]) (by kernel_rfl) (by simp) ?_
                   refine AllReadyH.cons rfl (fun K hK => ?_) AllReadyH.nil
                   go_simp
                   refine (HINC.out _ _ _ _).mono ?_
                   rintro e w7b ⟨rfl, hin⟩
                   have HINB := Lib.hid hin
                   clear hin
                   try go_simp
                   have h9 := HS9.out w7b wb7 A7 c7 hHeld hik7 HINB.out
                   have hb9 := h9.1
                   have H9 := Lib.hid h9.2
                   clear h9
                   refine hK.out _ _ hb9 (fun hHeld1 => ?_)
                   clear hK K hHeld hb9
                   have hHeld := hHeld1
                   clear hHeld1
                   (try simp only [Act.put, List.getElem_toArray, List.getElem_cons_succ, List.getElem_cons_zero, List.setIfInBounds_toArray, List.set_cons_zero, List.set_cons_succ])
                   refine wpAnyH_ready (rs := [9]) (by kernel_rfl) (by simp) ?_
                   refine AllReadyH.cons rfl (fun K hK => ?_) AllReadyH.nil
                   go_simp
                   refine H9.out.mono ?_
                   rintro e w7c ⟨A20, c20, rfl, hb20, ho20⟩
                   try go_simp
                   have hik20 := (own_ikG ho20 rfl).mono (fun (k : Nat) hk => hk.2)
                   have hb21 := hHeld.trans (hb20.mono hHeld.size)
                   rw [← HS1.out.2]
                   refine hK.out _ _ hb21 (fun hHeld1 => ?_)
                   clear hK K hHeld hb21
                   have hHeld := hHeld1
                   clear hHeld1
                   (try simp only [Act.put, List.getElem_toArray, List.getElem_cons_succ, List.getElem_cons_zero, List.setIfInBounds_toArray, List.set_cons_zero, List.set_cons_succ])
                   refine wpAnyH_take (i := 10) (v := .slice A20 n1 c20) rfl (by kernel_rfl) (by kernel_rfl) (by kernel_rfl) (fun _ _ _ h => h) (Or.inl ⟨by kernel_rfl, fun _ hS => by kernel_rfl⟩) hHeld ?_
                   (try simp only [Act.put, List.getElem_toArray, List.getElem_cons_succ, List.getElem_cons_zero, List.setIfInBounds_toArray, List.set_cons_zero, List.set_cons_succ])
                   have HE30 := Lib.hid hHeld
                   refine wpAnyH_done (by kernel_rfl) ?_ _
                   clear hHeld
                   go_wp2_with fail
                   go_meet
                   exact ⟨A20, c20, rfl, Lib.hid ⟨HE30.out, hik20⟩⟩
               · skip
                 obtain ⟨wb6, hwb6⟩ : ∃ x, x = wa.alloc (.cells mw.id.cs.toArray 28) := ⟨_, rfl⟩
                 obtain ⟨g6, hg6⟩ : ∃ x, x = wa.heap.size := ⟨_, rfl⟩
                 have hbn : Below wa.heap.size wa wb6 := by rw [hwb6]; exact (bel1 _ _).1
                 have hsix : wb6.heap[g6]? = some (.cells mw.id.cs.toArray 28) := by rw [hwb6, hg6]; exact heap_alloc_new _ _
                 refine step_oneId (wanted_none rfl) 131 rfl mw.id.cs.toArray rfl rfl ?_
                 rw [← hwb6, ← hg6]
                 have hbn2 := hHeld.trans (hbn.mono hHeld.size)
                 refine hK.out _ _ hbn2 (fun hHeld1 => ?_)
                 clear hK K hHeld hbn2
                 have hHeld := hHeld1
                 clear hHeld1
                 (try simp only [Act.put, List.getElem_toArray, List.getElem_cons_succ, List.getElem_cons_zero, List.setIfInBounds_toArray, List.set_cons_zero, List.set_cons_succ])
                 clear hbn hwb6 hg6
                 refine wpAnyH_ready (rs := [1]) (by kernel_rfl) (by simp) ?_
                 refine AllReadyH.cons rfl (fun K hK => ?_) AllReadyH.nil
                 obtain ⟨wb1, hwb1⟩ : ∃ x, x = wb6.alloc (.cells #[] 28) := ⟨_, rfl⟩
                 obtain ⟨g1, hg1⟩ : ∃ x, x = wb6.heap.size := ⟨_, rfl⟩
                 have hbn : Below wb6.heap.size wb6 wb1 := by rw [hwb1]; exact (bel1 _ _).1
                 have hown : ApS wb1 w19.heap.size (.slice (some ⟨g1, 0, none⟩) 0 0) 0 [] g6 mw.id := by rw [hwb1, hg1]; exact ApS.then_ hHeld.size hsix
                 refine step_of rfl (wp_noIds rfl ?_)
                 rw [← hwb1, ← hg1]
                 have hbn2 := hHeld.trans (hbn.mono hHeld.size)
                 refine hK.out _ _ hbn2 (fun hHeld1 => ?_)
                 clear hK K hHeld hbn2
                 have hHeld := hHeld1
                 clear hHeld1
                 (try simp only [Act.put, List.getElem_toArray, List.getElem_cons_succ, List.getElem_cons_zero, List.setIfInBounds_toArray, List.set_cons_zero, List.set_cons_succ])
                 clear hbn hwb1 hg1
                 clear hsix
                 refine wpAnyH_ready (rs := [3]) (by kernel_rfl) (by simp) ?_
                 refine AllReadyH.cons rfl (fun K hK => ?_) AllReadyH.nil
                 refine step_of rfl (wp_append_ik (.tmp 127) (.tmp 128) rfl w19.heap.size (.slice (some ⟨g1, 0, none⟩) 0 0) 0 kg kg [] gl rfl hown.1 A1 c1 _ rfl (HGL19.out.below (hHeld.mono H19.out.1.size)) HKG.out HIG.out.2 (by omega) (by omega) hHeld.size ?_)
                 intro A3 c3 wb3 ho3 hg3
                 have hbn2 : Below w19.heap.size w19 wb3 := hHeld.grown hg3 hHeld.size (own_base hown.1)
                 have hsix := hown.beside hg3
                 refine hK.out _ _ hbn2 (fun hHeld1 => ?_)
                 clear hK K hHeld hbn2
                 have hHeld := hHeld1
                 clear hHeld1
                 (try simp only [Act.put, List.getElem_toArray, List.getElem_cons_succ, List.getElem_cons_zero, List.setIfInBounds_toArray, List.set_cons_zero, List.set_cons_succ])
                 clear hown hg3
                 have hown := ho3
                 clear ho3
                 refine wpAnyH_ready (rs := [7]) (by kernel_rfl) (by simp) ?_
                 refine AllReadyH.cons rfl (fun K hK => ?_) AllReadyH.nil
                 refine step_of rfl (wp_append_ik (.tmp 129) (.tmp 132) rfl w19.heap.size (.slice A3 kg c3) kg 1 (kg + 1) ([] ++ gl) [mw.id] rfl hown (some ⟨g6, 0, none⟩) 1 _ rfl (ikG_one hsix) rfl (fun e => by cases e) rfl (by omega) hHeld.size ?_)
                 intro A7 c7 wb7 ho7 hg7
                 have hbn2 : Below w19.heap.size w19 wb7 := hHeld.grown hg7 hHeld.size (own_base hown)
                 have hik7 : IkG wb7 (fun b => b < wb7.heap.size) A7 c7 (gl ++ [mw.id]) := (own_ikG ho7 (by rw [List.nil_append, List.length_append, List.length_singleton, HKG.out])).mono (fun k hk => hk.2)
                 refine hK.out _ _ hbn2 (fun hHeld1 => ?_)
                 clear hK K hHeld hbn2
                 have hHeld := hHeld1
                 clear hHeld1
                 (try simp only [Act.put, List.getElem_toArray, List.getElem_cons_succ, List.getElem_cons_zero, List.setIfInBounds_toArray, List.set_cons_zero, List.set_cons_succ])
                 clear hg7 ho7
                 refine wpAnyH_ready (rs := [8]) (by kernel_rfl) (by simp) ?_
                 refine AllReadyH.cons rfl (fun K hK => ?_) AllReadyH.nil
                 go_simp
                 refine (HINC.out _ _ _ _).mono ?_
                 rintro e w7b ⟨rfl, hin⟩
                 have HINB := Lib.hid hin
                 clear hin
                 try go_simp
                 have h9 := HS9.out w7b wb7 A7 c7 hHeld hik7 HINB.out
                 have hb9 := h9.1
                 have H9 := Lib.hid h9.2
                 clear h9
                 refine hK.out _ _ hb9 (fun hHeld1 => ?_)
                 clear hK K hHeld hb9
                 have hHeld := hHeld1
                 clear hHeld1
                 (try simp only [Act.put, List.getElem_toArray, List.getElem_cons_succ, List.getElem_cons_zero, List.setIfInBounds_toArray, List.set_cons_zero, List.set_cons_succ])
                 refine wpAnyH_ready (rs := [9]) (by kernel_rfl) (by simp) ?_
                 refine AllReadyH.cons rfl (fun K hK => ?_) AllReadyH.nil
                 go_simp
                 refine H9.out.mono ?_
                 rintro e w7c ⟨A20, c20, rfl, hb20, ho20⟩
                 try go_simp
                 have hik20 := (own_ikG ho20 rfl).mono (fun (k : Nat) hk => hk.2)
                 have hb21 := hHeld.trans (hb20.mono hHeld.size)
                 rw [← HS1.out.2]
                 refine hK.out _ _ hb21 (fun hHeld1 => ?_)
                 clear hK K hHeld hb21
                 have hHeld := hHeld1
                 clear hHeld1
                 (try simp only [Act.put, List.getElem_toArray, List.getElem_cons_succ, List.getElem_cons_zero, List.setIfInBounds_toArray, List.set_cons_zero, List.set_cons_succ])
                 refine wpAnyH_take (i := 10) (v := .slice A20 n1 c20) rfl (by kernel_rfl) (by kernel_rfl) (by kernel_rfl) (fun _ _ _ h => h) (Or.inl ⟨by kernel_rfl, fun _ hS => by kernel_rfl⟩) hHeld ?_
                 (try simp only [Act.put, List.getElem_toArray, List.getElem_cons_succ, List.getElem_cons_zero, List.setIfInBounds_toArray, List.set_cons_zero, List.set_cons_succ])
                 have HE30 := Lib.hid hHeld
                 refine wpAnyH_done (by kernel_rfl) ?_ _
                 clear hHeld
                 go_wp2_with fail
                 go_meet
                 exact ⟨A20, c20, rfl, Lib.hid ⟨HE30.out, hik20⟩⟩
              case rest =>
               obtain ⟨A20, c20, rfl, hcut⟩ := hcut
               obtain ⟨w20, hw20⟩ : ∃ x, x = wc := ⟨_, rfl⟩
               rw [← hw20] at hcut ⊢
               clear hw20
               have HCUT := hcut
               clear hcut
               have hwas20 : IkG w20 (fun b => b < w20.heap.size) A12 c12 S1 := HWAS.out.below (H19.out.1.trans (HCUT.out.1.mono H19.out.1.size)) |>.mono (fun b hb => Nat.lt_of_lt_of_le hb (H19.out.1.trans (HCUT.out.1.mono H19.out.1.size)).size)
               have HWAS20 := Lib.hid hwas20
               have HN1 := Lib.hid HS1.out.2
               have hn1 : n1 ≤ 100000 := by rw [HS1.out.2, HS1.out.1]; unfold idsW standW; rw [List.length_map]; exact Nat.le_trans (List.length_filter_le _ _) (by have := HMM.out.1; omega)
               have HBW20 := Lib.hid (H19.out.2.trans (HCUT.out.1.mono H19.out.2.size))
               have hst20 : MoK w20 n1 (.int .i64 0) w20 := ⟨0, Nat.zero_le _, rfl, Lib.hid (Below.refl _ _)⟩
               have HST20 := Lib.hid hst20
               clear hwas20 hst20
               go_wp2
               go_loopw [143] (fun iv wr => MoK w20 n1 iv wr) (fun iv _ => n1 - (intOf iv).toNat)
               case atStart => exact HST20.out
               case round =>
                obtain ⟨i, hin, rfl, hR3⟩ := hrel
                by_cases hi : i < n1
                · have hiI : (i : Int) < (n1 : Int) := by omega
                  have hi0 : (0 : Int) ≤ i := by omega
                  have htl : i < S1.length := by rw [← HN1.out]; exact hi
                  obtain ⟨qb, ob, hA20, hqb, hrb⟩ := HCUT.out.2.at_ i htl
                  obtain ⟨qw, ow, hA12, hqw, hrw⟩ := HWAS20.out.at_ i htl
                  subst hA20
                  subst hA12
                  obtain ⟨x, hx⟩ : ∃ x, x = S1[i] := ⟨_, rfl⟩
                  rw [← hx] at hrb hrw
                  have hrows : ∀ wz, Below wr.heap.size wr wz → wz.rangeAt qb (ob + i * 2) x.cs ∧ wz.rangeAt qw (ow + i * 2) x.cs := fun wz hz => by
                    have h := hR3.out.trans (hz.mono hR3.out.size)
                    exact ⟨fun j v hv => (World.cell?_of_block (a := ⟨qb, ob + i * 2 + j, none⟩) (h.block qb hqb)).trans (hrb j v hv), fun j v hv => (World.cell?_of_block (a := ⟨qw, ow + i * 2 + j, none⟩) (h.block qw hqw)).trans (hrw j v hv)⟩
                  have HRW := Lib.hid hrows
                  clear hrb hrw hqb hqw hx hrows htl
                  go_upto_region 36 with (fail)
                  refine wp_region_held_drew (S := fun wx => Below wr.heap.size wr wx) (by kernel_rfl) (Below.refl _ _).drew (fun hHeld => ?_)
                  obtain ⟨wa, hwa⟩ : ∃ x, x = wr.drew := ⟨_, rfl⟩
                  rw [← hwa] at hHeld ⊢
                  clear hwa
                  refine wpAnyH_take (i := 0) (v := .slice (some ⟨qb, ob, none⟩) n1 c20) rfl (by kernel_rfl) (by kernel_rfl) (by kernel_rfl) (fun _ _ _ h => h) (Or.inl ⟨by kernel_rfl, fun _ hS => by kernel_rfl⟩) hHeld ?_
                  (try simp only [Act.put, List.getElem_toArray, List.getElem_cons_succ, List.getElem_cons_zero, List.setIfInBounds_toArray, List.set_cons_zero, List.set_cons_succ])
                  refine wpAnyH_take (i := 1) (v := .int .i64 (i : Nat)) rfl (by kernel_rfl) (by kernel_rfl) (by kernel_rfl) (fun _ _ _ h => h) (Or.inl ⟨by kernel_rfl, fun _ hS => by kernel_rfl⟩) hHeld ?_
                  (try simp only [Act.put, List.getElem_toArray, List.getElem_cons_succ, List.getElem_cons_zero, List.setIfInBounds_toArray, List.set_cons_zero, List.set_cons_succ])
                  refine wpAnyH_take (i := 2) (v := .pointer (some ⟨qb, ob + i * 2, none⟩)) rfl (by kernel_rfl) (by kernel_rfl) (by kernel_rfl) (fun _ _ _ h => h) (Or.inl ⟨by kernel_rfl, fun _ hS => ix_atIo _ _ rfl qb ob n1 c20 i rfl rfl hi⟩) hHeld ?_
                  (try simp only [Act.put, List.getElem_toArray, List.getElem_cons_succ, List.getElem_cons_zero, List.setIfInBounds_toArray, List.set_cons_zero, List.set_cons_succ])
                  refine wpAnyH_take (i := 3) (v := .agg x.cs.toArray) rfl (by kernel_rfl) (by kernel_rfl) (by kernel_rfl) (fun _ _ _ h => h) (yieldsIf_load_mid (by kernel_rfl) 28 _ rfl qb (ob + i * 2) rfl x.cs _ (fun _ hS => (HRW.out _ hS).1) ikUnd rfl (HIK.out _)) hHeld ?_
                  (try simp only [Act.put, List.getElem_toArray, List.getElem_cons_succ, List.getElem_cons_zero, List.setIfInBounds_toArray, List.set_cons_zero, List.set_cons_succ])
                  refine wpAnyH_take (i := 4) (v := .slice (some ⟨qw, ow, none⟩) n1 c12) rfl (by kernel_rfl) (by kernel_rfl) (by kernel_rfl) (fun _ _ _ h => h) (Or.inl ⟨by kernel_rfl, fun _ hS => by kernel_rfl⟩) hHeld ?_
                  (try simp only [Act.put, List.getElem_toArray, List.getElem_cons_succ, List.getElem_cons_zero, List.setIfInBounds_toArray, List.set_cons_zero, List.set_cons_succ])
                  refine wpAnyH_take (i := 5) (v := .int .i64 (i : Nat)) rfl (by kernel_rfl) (by kernel_rfl) (by kernel_rfl) (fun _ _ _ h => h) (Or.inl ⟨by kernel_rfl, fun _ hS => by kernel_rfl⟩) hHeld ?_
                  (try simp only [Act.put, List.getElem_toArray, List.getElem_cons_succ, List.getElem_cons_zero, List.setIfInBounds_toArray, List.set_cons_zero, List.set_cons_succ])
                  refine wpAnyH_take (i := 6) (v := .pointer (some ⟨qw, ow + i * 2, none⟩)) rfl (by kernel_rfl) (by kernel_rfl) (by kernel_rfl) (fun _ _ _ h => h) (Or.inl ⟨by kernel_rfl, fun _ hS => ix_atIo _ _ rfl qw ow n1 c12 i rfl rfl hi⟩) hHeld ?_
                  (try simp only [Act.put, List.getElem_toArray, List.getElem_cons_succ, List.getElem_cons_zero, List.setIfInBounds_toArray, List.set_cons_zero, List.set_cons_succ])
                  refine wpAnyH_take (i := 7) (v := .agg x.cs.toArray) rfl (by kernel_rfl) (by kernel_rfl) (by kernel_rfl) (fun _ _ _ h => h) (yieldsIf_load_mid (by kernel_rfl) 28 _ rfl qw (ow + i * 2) rfl x.cs _ (fun _ hS => (HRW.out _ hS).2) ikUnd rfl (HIK.out _)) hHeld ?_
                  (try simp only [Act.put, List.getElem_toArray, List.getElem_cons_succ, List.getElem_cons_zero, List.setIfInBounds_toArray, List.set_cons_zero, List.set_cons_succ])
                  refine wpAnyH_take (i := 8) (v := .bool false) rfl (by kernel_rfl) (by kernel_rfl) (by kernel_rfl) (fun _ _ _ h => h) (Or.inl ⟨by kernel_rfl, fun _ hS => ik_ne_run _ _ rfl x x rfl rfl (by simp)⟩) hHeld ?_
                  (try simp only [Act.put, List.getElem_toArray, List.getElem_cons_succ, List.getElem_cons_zero, List.setIfInBounds_toArray, List.set_cons_zero, List.set_cons_succ])
                  have HE36 := Lib.hid hHeld
                  refine wpAnyH_done (by kernel_rfl) ?_ _
                  clear hHeld
                  go_wp2
                  go_roundw
                  case measure => simp [intOf]; omega
                  case rel => exact ⟨i + 1, by omega, by go_num, Lib.hid (hR3.out.trans (HE36.out.mono hR3.out.size))⟩
                · have hie : n1 = i := by omega
                  subst hie
                  have hiI : ¬ ((n1 : Int) < (n1 : Int)) := by omega
                  go_wp2
                  first | go_ret | go_ret2 | (refine bodyPost_ret (results_tmp rfl _ _ _) rfl ?_)
                  exact ⟨by kernel_rfl, HBW20.out.trans (hR3.out.mono HBW20.out.size)⟩
       · have hkI : ¬ ((0 : Int) < (k : Int)) := by omega
         have hM0 : M = [] := List.length_eq_zero_iff.1 (by rw [← HKK.out.2]; omega)
         have hnx : nextI M = ⟨1, 1⟩ := by rw [hM0]; rfl
         have HNX := Lib.hid hnx
         have HT := HT7
         have HNO := Lib.hid (show i64 1 from by unfold i64; omega)
         have HCF := Lib.hid HNWC.out.2
         clear hM0 hnx
         go_upto_region 17 with (fail)
         have hstJ : LaJ w7 gl ⟨1, 1⟩ kg (.int .i64 0) w7 := ⟨0, Nat.zero_le _, rfl, Lib.hid ⟨Below.refl _ _, fun j _ h => absurd h (Nat.not_lt_zero _)⟩⟩
         have HSJ := Lib.hid hstJ
         clear hstJ
         go_wp2
         go_loopw [76] (fun iv wr => LaJ w7 gl ⟨1, 1⟩ kg iv wr) (fun iv _ => kg - (intOf iv).toNat)
         case atStart => exact HSJ.out
         case round =>
          obtain ⟨i, hin, rfl, hR2⟩ := hrel
          by_cases hi : i < kg
          · have hiI : (i : Int) < (kg : Int) := by omega
            have hi0 : (0 : Int) ≤ i := by omega
            have hb2 : Below w.heap.size w wr := HB0.out.trans ((HT.out.1.trans (hR2.out.1.mono HT.out.1.size)).mono HB0.out.size)
            have htl : i < gl.length := by rw [← HKG.out]; exact hi
            obtain ⟨q, o, hA, -, hrg⟩ := (HIG.out.1.below hb2).at_ i htl
            obtain ⟨x, hx⟩ : ∃ x, x = gl[i] := ⟨_, rfl⟩
            rw [← hx] at hrg
            obtain ⟨w9, hw9⟩ : ∃ w9, w9 = wr.alloc (.cells #[.int .i64 x.a, .int .i64 x.n] 28) := ⟨_, rfl⟩
            obtain ⟨gx, hgx⟩ : ∃ g, g = wr.heap.size := ⟨_, rfl⟩
            have hb9 : Below wr.heap.size wr w9 := by rw [hw9]; exact (bel1 _ _).1
            have hk9 : w9.heap[gx]? = some (.cells #[.int .i64 x.a, .int .i64 x.n] 28) := by rw [hw9, hgx]; exact heap_alloc_new _ _
            have h89 : Below w7.heap.size w7 w9 := hR2.out.1.trans (hb9.mono hR2.out.1.size)
            have hxr : w9.rangeAt gx 0 [.int .i64 x.a, .int .i64 x.n] := ik_range hk9
            have hgr : w9.rangeAt g7 0 [.int .i64 1, .int .i64 1] := HT.out.id HCF.out h89
            have hze := fun w => eqI w x.a x.n 1 1
            have hdc : decide (x = ⟨1, 1⟩) = decide (x.a = 1 ∧ x.n = 1) := ik_dec _ _
            have HX := Lib.hid hx
            have HW9 := Lib.hid (And.intro hw9 hgx)
            have HRG := Lib.hid hrg
            have H89 := Lib.hid h89
            have HXR := Lib.hid hxr
            have HGR := Lib.hid hgr
            have HIL := Lib.hid (show ∀ a b : Value, (Tryz.prog.info? 28).map (·.size) = some [a, b].length from fun _ _ => ikInfo)
            have HAA := Lib.hid hA
            clear hb2 hrg hx hw9 hgx hb9 hk9 h89 hxr hgr hze hdc
            subst hA
            go_upto_region 20 with (first | (refine wpList_mid rfl 28 _ rfl q (o + i * 2) rfl [.int .i64 x.a, .int .i64 x.n] _ HRG.out ikUnd rfl (HIL.out _ _) ?_) | fail)
            rw [← HW9.out.1, ← HW9.out.2]
            have hze := fun w => eqI w x.a x.n 1 1
            cases hid : decide (x.a = 1 ∧ x.n = 1) with
            | true =>
              rw [hid] at hze
              clear hid
              go_wp2_with (first | (refine wpList_mid rfl 28 _ rfl gx 0 rfl [.int .i64 x.a, .int .i64 x.n] _ HXR.out ikUnd rfl (HIL.out _ _) ?_) | (refine wpList_mid rfl 28 _ rfl g7 0 rfl [.int .i64 1, .int .i64 1] _ HGR.out ikUnd rfl (HIL.out _ _) ?_) | fail)
              first | go_ret | go_ret2 | (refine bodyPost_ret (results_tmp rfl _ _ _) rfl ?_)
              have h := HT.out.1.trans (H89.out.mono HT.out.1.size)
              exact ⟨by kernel_rfl, HB0.out.trans (h.mono HB0.out.size)⟩
            | false =>
              rw [hid] at hze
              have HID := Lib.hid hid
              clear hid
              go_wp2_with (first | (refine wpList_mid rfl 28 _ rfl gx 0 rfl [.int .i64 x.a, .int .i64 x.n] _ HXR.out ikUnd rfl (HIL.out _ _) ?_) | (refine wpList_mid rfl 28 _ rfl g7 0 rfl [.int .i64 1, .int .i64 1] _ HGR.out ikUnd rfl (HIL.out _ _) ?_) | fail)
              go_roundw
              case measure => simp [intOf]; omega
              case rel =>
                refine ⟨i + 1, by omega, by go_num, Lib.hid ⟨H89.out, fun j hj hji e => ?_⟩⟩
                by_cases hji' : j = i
                · subst hji'
                  rw [← HX.out] at e
                  exact of_decide_eq_false HID.out (by rw [e]; exact ⟨rfl, rfl⟩)
                · exact hR2.out.2 j hj (by omega) e
          · have hie : kg = i := by omega
            subst hie
            have hiI : ¬ ((kg : Int) < (kg : Int)) := by omega
            obtain ⟨w10, hw10⟩ : ∃ x, x = wr := ⟨_, rfl⟩
            have h10 := hR2.out.1
            have hng : (⟨1, 1⟩ : Ik) ∉ gl := fun h => by
              obtain ⟨j, hj, e⟩ := List.mem_iff_getElem.1 h
              exact hR2.out.2 j hj (by rw [HKG.out]; exact hj) e
            rw [← hw10] at h10 ⊢
            have hgl8 : IkG w7 (fun b => b < w7.heap.size) A1 c1 gl := by
              have h := HB0.out.trans (HT.out.1.mono HB0.out.size)
              exact (HIG.out.1.below h).mono (fun b hb => Nat.lt_of_lt_of_le hb h.size)
            have hsh : ∀ wx, Below w7.heap.size w7 wx → ∀ gv g, GoneV wx gv g → Calls Tryz.prog 15 #[.pointer (some ⟨p, 0, none⟩), gv] wx (IdsP wx (idsW (standW M g))) := fun wx hx gv g hg => by
              have hM := HMM.out.1
              exact shown_c (HT.out.2.1.below hx).z (by omega) gv g hg
            have HGL := Lib.hid hgl8
            have HSH := Lib.hid hsh
            have H10 := Lib.hid h10
            have HNG := Lib.hid hng
            clear hR2 HSJ hw10 h10 hng hgl8 hsh
            obtain ⟨S1, hS1⟩ : ∃ S, S = idsW (standW M (fun x => decide (x ∈ gl))) := ⟨_, rfl⟩
            obtain ⟨n1, hn1⟩ : ∃ n, n = S1.length := ⟨_, rfl⟩
            have HS1 := Lib.hid (And.intro hS1 hn1)
            clear hS1 hn1
            go_upto_region 24 with (first | (go_at_call 16; refine (HINC.out _ _ _ _).mono ?_; rintro e w11 ⟨rfl, hin⟩; have HIN11 := Lib.hid hin; clear hin) | (go_at_call 15; refine ((HSH.out w11 (in_at HGL.out HKG.out H10.out HIN11.out).2) _ _ (in_at HGL.out HKG.out H10.out HIN11.out).1).mono ?_; rintro e w12 ⟨A12, c12, rfl, hb12, ho12⟩; have H12 := Lib.hid (And.intro hb12 ho12); clear hb12 ho12) | fail)
            rw [← HS1.out.1, ← HS1.out.2]
            have hb11 : Below w7.heap.size w7 w11 := (in_at HGL.out HKG.out H10.out HIN11.out).2
            have hb12 : Below w7.heap.size w7 w12 := hb11.trans (H12.out.1.mono hb11.size)
            have hrg12 := HT.out.2.1.below hb12
            obtain ⟨mw, hmw⟩ : ∃ m, m = (⟨⟨1, 1⟩, y, idsW M⟩ : Wr) := ⟨_, rfl⟩
            have hbw : Below w.heap.size w w12 := HB0.out.trans ((HT.out.1.trans (hb12.mono HT.out.1.size)).mono HB0.out.size)
            have hpl := put_last (M := M) (by have := HMM.out.1; omega) HMM.out.2.2 (fun m hm => (HMM.out.2.1 m hm).2) mw (by rw [hmw]) (by rw [hmw, ← HNX.out]; exact next_may (fun m hm => (good_may (HMM.out.2.1 m hm).2).1)) (by rw [hmw, ← HNX.out]; exact next_bef HMM.out.2.2) (by rw [hmw]; exact HYR.out)
            have hik12 : IkG w12 (fun b => b < w12.heap.size) A6 c6 (idsW M) := HT.out.2.2.2.1.keep (fun b hb => ⟨hb12.block b (Nat.lt_trans hb.2 HT.out.2.2.2.2.2), Nat.lt_of_lt_of_le (Nat.lt_trans hb.2 HT.out.2.2.2.2.2) hb12.size⟩)
            have hwin : WrIn w12 w12.heap.size mw Ac cc A6 c6 := by
              rw [hmw]
              refine wrIn_of ⟨⟨(show i64 1 from by unfold i64; omega), HNO.out⟩, HYY.out.1, HYY.out.2.1, HYY.out.2.2.2, fun z hz => ?_⟩ (by show (idsW M).length ≤ 60; rw [← HKK.out.1]; omega) ((HYY.out.2.2.1.below hbw).more hbw.size) hik12
              obtain ⟨m, hm, rfl⟩ := List.mem_map.1 hz
              exact (HMM.out.2.1 m hm).1
            have hput : Calls Tryz.prog 13 #[.pointer (some ⟨p, 0, none⟩), .agg NW] w12 fun e w' => e = .returned (.int .i64 0) ∧ RgM w' p (n + 1) (M ++ [mw]) (fun b => (z0 ≤ b ∧ b < W.heap.size) ∨ (w12.heap.size ≤ b ∧ b < w'.heap.size)) ∧ KeepZ (fun b => z0 ≤ b ∧ b < W.heap.size) w12 w' := by
              have h := put_c hrg12 (by omega) (by have := HMM.out.1; omega) mw Ac cc A6 c6 hwin (Nat.le_refl _)
              rw [hmw, ← HCF.out, ← hmw] at h
              refine h.mono fun e w' h => ?_
              unfold PutP at h
              rw [hpl.1] at h
              exact h
            have hrx : w12.rangeAt g7 0 NW.toList := row_range_ ((hb12.block g7 HT.out.2.2.2.2.2).trans HT.out.2.2.1) _ _ (fun j v hv => by rw [Nat.zero_add, ← Array.getElem?_toList]; exact hv)
            have hinf : (Tryz.prog.info? 49).map (·.size) = some NW.toList.length := by rw [HCF.out]; exact (HIW.out _ _ _ _ _).2.1
            have HPUT := Lib.hid hput
            have HRX := Lib.hid (And.intro hrx hinf)
            have HPL := Lib.hid (And.intro hpl hmw)
            have HB12 := Lib.hid (And.intro hb11 (And.intro hb12 hbw))
            clear hb11 hb12 hrg12 hmw hbw hpl hik12 hwin hput hrx hinf
            go_upto_region 26 with (first | (refine wpList_mid rfl 49 _ rfl g7 0 rfl NW.toList _ HRX.out.1 undWr rfl HRX.out.2 ?_; simp only [Array.toArray_toList]) | (go_at_call 13; refine HPUT.out.mono ?_; rintro e w13 ⟨rfl, hr13, hk13⟩; have H13 := Lib.hid (And.intro hr13 hk13); clear hr13 hk13) | fail)
            have hzb : ∀ b, (z0 ≤ b ∧ b < W.heap.size) → W0.heap.size ≤ b := fun b hb => by have h1 := HZ.out.1; have h2 := HZ.out.2.size; omega
            have hb13 : Below W0.heap.size W0 w13 := keepZ_below (HT.out.1.trans (HB12.out.2.1.mono HT.out.1.size)) H13.out.2 hzb (HT.out.1.trans (HB12.out.2.1.mono HT.out.1.size)).size
            have hbw13 : Below w.heap.size w w13 := HB0.out.trans (hb13.mono HB0.out.size)
            have hgl13 : IkG w13 (fun b => b < w13.heap.size) A1 c1 gl := (HIG.out.1.below hbw13).mono (fun b hb => Nat.lt_of_lt_of_le hb hbw13.size)
            have hk13 : w13.heap[g7]? = some (.cells NW 49) := (H13.out.2.block g7 (Nat.lt_of_lt_of_le HT.out.2.2.2.2.2 HB12.out.2.1.size) (fun h => by have := HT.out.2.2.2.2.1; omega)).trans ((HB12.out.2.1.block g7 HT.out.2.2.2.2.2).trans HT.out.2.2.1)
            have hwas : IkG w13 (fun b => b < w13.heap.size) A12 c12 S1 := by
              have h := own_ikG H12.out.2 rfl
              rw [← HS1.out.1] at h
              exact h.keep (fun b hb => ⟨H13.out.2.block b hb.2 (fun h => by have h1 := hb.1; have h2 := HB12.out.1.size; have h3 := HT.out.2.2.2.2; omega), Nat.lt_of_lt_of_le hb.2 H13.out.2.size⟩)
            have hone : standW (M ++ [mw]) (fun x => decide (x ∈ gl)) = [mw] := stand_last (by rw [HPL.out.2]) (by rw [HPL.out.2]; exact decide_eq_false HNG.out) HPL.out.1.2.1 HPL.out.1.2.2
            have hback : standW (M ++ [mw]) (fun x => decide (x ∈ gl ++ [mw.id])) = standW M (fun x => decide (x ∈ gl)) := stand_back (fun m hm => by
              have hne : m.id ≠ mw.id := fun e => HPL.out.1.2.1 (List.mem_map.2 ⟨m, hm, e⟩)
              simp [hne]) (by simp)
            have hcalls : ∀ wx, Below w13.heap.size w13 wx → ∀ gv g, GoneV wx gv g → Calls Tryz.prog 15 #[.pointer (some ⟨p, 0, none⟩), gv] wx (IdsP wx (idsW (standW (M ++ [mw]) g))) ∧ Calls Tryz.prog 17 #[.pointer (some ⟨p, 0, none⟩), gv] wx (GetP wx (standW (M ++ [mw]) g)) := fun wx hx gv g hg => by
              have hM := HMM.out.1
              have h := (H13.out.1.below hx).z
              have hl : (M ++ [mw]).length ≤ 10000 := by rw [List.length_append, List.length_singleton]; omega
              exact ⟨shown_c h hl gv g hg, get_c h hl gv g hg⟩
            have HB13 := Lib.hid (And.intro hb13 hbw13)
            have HGL13 := Lib.hid hgl13
            have HK13 := Lib.hid hk13
            have HWAS := Lib.hid hwas
            have HONE := Lib.hid (And.intro hone hback)
            have HC13 := Lib.hid hcalls
            have HCI := Lib.hid (show ∀ (x : Ct) (A : Option Addr) (c : Nat), (Tryz.prog.info? 37).map (·.size) = some (contA x A c).size ∧ (Tryz.prog.info? 37).map (·.size) = some (contA x A c).toList.length ∧ (contA zCt none 0).size = (contA x A c).size ∧ (contA x A c).all (·.oneCell') = true from fun x A c => ⟨infC, infC, rfl, cont_one _ _ _⟩)
            clear hzb hb13 hbw13 hgl13 hk13 hwas hone hback hcalls
            go_upto_region 27 with (first | (go_at_call 16; refine (HINC.out _ _ _ _).mono ?_; rintro e w14 ⟨rfl, hin⟩; have HIN14 := Lib.hid hin; clear hin) | (go_at_call 17; refine ((HC13.out w14 (in_at HGL13.out HKG.out (Below.refl _ _) HIN14.out).2 _ _ (in_at HGL13.out HKG.out (Below.refl _ _) HIN14.out).1).2).mono ?_; intro e w15 hgp; obtain ⟨A15, c15, Ao15, co15, rfl, hs15, hb15⟩ := hgp.one HONE.out.1; clear hgp; have H15 := Lib.hid (And.intro hs15 hb15); clear hs15 hb15; obtain ⟨CA, hCA⟩ : ∃ C, C = contA mw.x A15 c15 := ⟨_, rfl⟩; have hia := HCI.out mw.x A15 c15; rw [← hCA] at hia ⊢; have HCA := Lib.hid (And.intro hCA hia); clear hCA hia) | (refine wpList_contVar rfl rfl w15.heap.size rfl ?_) | (refine wpList_storeFresh (w := w15) rfl 37 _ _ rfl w15.heap.size rfl CA rfl rfl HCA.out.2.1 HCA.out.2.2.2.1 HCA.out.2.2.2.2 ?_) | fail)
            obtain ⟨w16, hw16⟩ : ∃ x, x = w15.alloc (.cells CA 37) := ⟨_, rfl⟩
            obtain ⟨g16, hg16⟩ : ∃ g, g = w15.heap.size := ⟨_, rfl⟩
            rw [← hw16, ← hg16]
            have hb14 : Below w13.heap.size w13 w14 := (in_at HGL13.out HKG.out (Below.refl _ _) HIN14.out).2
            have hb15 : Below w13.heap.size w13 w15 := hb14.trans (H15.out.2.mono hb14.size)
            have hb1516 : Below w15.heap.size w15 w16 := by rw [hw16]; exact (bel1 _ _).1
            have hb16 : Below w13.heap.size w13 w16 := hb15.trans (hb1516.mono hb15.size)
            have hk16 : w16.heap[g16]? = some (.cells CA 37) := by rw [hw16, hg16]; exact heap_alloc_new _ _
            have H16 := Lib.hid (And.intro hb16 (And.intro hk16 hb1516))
            clear hw16 hg16 hb14 hb15 hb1516 hb16 hk16
            go_upto_region 28 with (first | (go_at_call 16; refine (HINC.out _ _ _ _).mono ?_; rintro e w17 ⟨rfl, hin⟩; have HIN17 := Lib.hid hin; clear hin) | (go_at_call 15; refine ((HC13.out w17 (in_at HGL13.out HKG.out H16.out.1 HIN17.out).2 _ _ (in_at HGL13.out HKG.out H16.out.1 HIN17.out).1).1).mono ?_; intro e w18 hip; obtain ⟨A18, c18, rfl, hb18, hi18⟩ := hip.one HONE.out.1; clear hip; have H18 := Lib.hid (And.intro hb18 hi18); clear hb18 hi18) | fail)
            have hb1618 : Below w16.heap.size w16 w18 := by
              have h : Below w16.heap.size w16 w17 := by rw [HIN17.out]; exact (bel1 _ _).1
              exact h.trans (H18.out.1.mono h.size)
            have hb18 : Below w13.heap.size w13 w18 := H16.out.1.trans (hb1618.mono H16.out.1.size)
            have hbw18 : Below w.heap.size w w18 := HB13.out.2.trans (hb18.mono HB13.out.2.size)
            have hbo18 : Below W0.heap.size W0 w18 := HB13.out.1.trans (hb18.mono HB13.out.1.size)
            have hb1518 : Below w15.heap.size w15 w18 := H16.out.2.2.trans (hb1618.mono H16.out.2.2.size)
            obtain ⟨q8, o8, hA18, hq8, hr8⟩ := H18.out.2.at_ 0 (by show 0 < 1; omega)
            have hrows : ∀ wz, Below w18.heap.size w18 wz → wz.rangeAt g16 0 CA.toList ∧ wz.rangeAt g0 0 CC.toList ∧ wz.rangeAt q8 (o8 + 0 * 2) mw.id.cs ∧ wz.rangeAt g7 0 mw.id.cs := fun wz hz => by
              refine ⟨row_range_ ((hz.block g16 (Nat.lt_of_lt_of_le (Array.getElem?_eq_some_iff.1 H16.out.2.1).1 hb1618.size)).trans ((hb1618.block g16 (Array.getElem?_eq_some_iff.1 H16.out.2.1).1).trans H16.out.2.1)) _ _ (fun j v hv => by rw [Nat.zero_add, ← Array.getElem?_toList]; exact hv), HCC.out wz (hbo18.trans (hz.mono hbo18.size)), fun j v hv => (World.cell?_of_block (a := ⟨q8, o8 + 0 * 2 + j, none⟩) (hz.block q8 hq8)).trans (hr8 j v hv), ?_⟩
              have hk := (hz.block g7 (Nat.lt_of_lt_of_le (Array.getElem?_eq_some_iff.1 HK13.out).1 hb18.size)).trans ((hb18.block g7 (Array.getElem?_eq_some_iff.1 HK13.out).1).trans HK13.out)
              rw [HCF.out, ← HPL.out.2] at hk
              exact (wr_rows hk).1
            have hmx : mw.x = y := by rw [HPL.out.2]
            have hsm : ∀ wz, Below w18.heap.size w18 wz → Calls Tryz.prog 18 #[.agg CA, .agg CC] wz fun e w' => e = .returned (.bool true) ∧ Below wz.heap.size wz w' := fun wz hz => by
              have h1 := hbw18.trans (hz.mono hbw18.size)
              have h2 := hb1518.trans (hz.mono hb1518.size)
              have h := rcsame_c y y wz wz.heap.size A15 Ac c15 cc HYY.out.2.1 (by have := H15.out.1; rw [hmx] at this; exact (this.below h2).more h2.size) HYY.out.2.1 ((HYY.out.2.2.1.below h1).more h1.size) (Nat.le_refl _)
              rw [sameC_self] at h
              unfold contV at h
              rw [HCA.out.1, HCCE.out, hmx]
              exact h
            have HRW := Lib.hid hrows
            have HSM2 := Lib.hid hsm
            have HB18 := Lib.hid (And.intro hb18 (And.intro hbw18 hbo18))
            clear hb1618 hb18 hbw18 hbo18 hb1518 hq8 hr8 hrows hmx hsm
            subst hA18
            refine wp_region_held_drew (S := fun wx => Below w18.heap.size w18 wx) (by kernel_rfl) (Below.refl _ _).drew (fun hHeld => ?_)
            obtain ⟨wa, hwa⟩ : ∃ x, x = w18.drew := ⟨_, rfl⟩
            rw [← hwa] at hHeld ⊢
            clear hwa
            refine wpAnyH_take (i := 0) (v := .agg CA.toList.toArray) rfl (by kernel_rfl) (by kernel_rfl) (by kernel_rfl) (fun _ _ _ h => h) (yieldsIf_load_mid (by kernel_rfl) 37 _ rfl g16 0 rfl CA.toList _ (fun _ hS => (HRW.out _ hS).1) undC rfl HCA.out.2.2.1) hHeld ?_
            (try simp only [Act.put, List.getElem_toArray, List.getElem_cons_succ, List.getElem_cons_zero, List.setIfInBounds_toArray, List.set_cons_zero, List.set_cons_succ])
            refine wpAnyH_take (i := 1) (v := .agg CC.toList.toArray) rfl (by kernel_rfl) (by kernel_rfl) (by kernel_rfl) (fun _ _ _ h => h) (yieldsIf_load_mid (by kernel_rfl) 37 _ rfl g0 0 rfl CC.toList _ (fun _ hS => (HRW.out _ hS).2.1) undC rfl HIC.out.1) hHeld ?_
            (try simp only [Act.put, List.getElem_toArray, List.getElem_cons_succ, List.getElem_cons_zero, List.setIfInBounds_toArray, List.set_cons_zero, List.set_cons_succ])
            refine wpAnyH_ready (rs := [2]) (by kernel_rfl) (by simp) ?_
            refine AllReadyH.cons rfl (fun K hK => ?_) AllReadyH.nil
            go_simp
            try simp only [Array.toArray_toList]
            refine (HSM2.out wa hHeld).mono ?_
            rintro e wb ⟨rfl, hbb⟩
            try go_simp
            have hbb2 : Below w18.heap.size w18 wb := hHeld.trans (hbb.mono hHeld.size)
            refine hK.out _ _ hbb2 (fun hHeld1 => ?_)
            clear hK K hHeld hbb2
            have hHeld := hHeld1
            clear hHeld1
            (try simp only [Act.put, List.getElem_toArray, List.getElem_cons_succ, List.getElem_cons_zero, List.setIfInBounds_toArray, List.set_cons_zero, List.set_cons_succ])
            clear hbb
            refine wpAnyH_take (i := 3) (v := .bool false) rfl (by kernel_rfl) (by kernel_rfl) (by kernel_rfl) (fun _ _ _ h => h) (Or.inl ⟨by kernel_rfl, fun _ hS => by kernel_rfl⟩) hHeld ?_
            (try simp only [Act.put, List.getElem_toArray, List.getElem_cons_succ, List.getElem_cons_zero, List.setIfInBounds_toArray, List.set_cons_zero, List.set_cons_succ])
            refine wpAnyH_take (i := 4) (v := .bool false) rfl (by kernel_rfl) (by kernel_rfl) (by kernel_rfl) (fun _ _ _ h => h) (Or.inl ⟨by kernel_rfl, fun _ hS => by kernel_rfl⟩) hHeld ?_
            (try simp only [Act.put, List.getElem_toArray, List.getElem_cons_succ, List.getElem_cons_zero, List.setIfInBounds_toArray, List.set_cons_zero, List.set_cons_succ])
            refine wpAnyH_take (i := 5) (v := .slice Ao15 0 co15) rfl (by kernel_rfl) (by kernel_rfl) (by kernel_rfl) (fun _ _ _ h => h) (Or.inl ⟨by kernel_rfl, fun _ hS => by kernel_rfl⟩) hHeld ?_
            (try simp only [Act.put, List.getElem_toArray, List.getElem_cons_succ, List.getElem_cons_zero, List.setIfInBounds_toArray, List.set_cons_zero, List.set_cons_succ])
            refine wpAnyH_take (i := 6) (v := .int .i64 0) rfl (by kernel_rfl) (by kernel_rfl) (by kernel_rfl) (fun _ _ _ h => h) (Or.inl ⟨by kernel_rfl, fun _ hS => by kernel_rfl⟩) hHeld ?_
            (try simp only [Act.put, List.getElem_toArray, List.getElem_cons_succ, List.getElem_cons_zero, List.setIfInBounds_toArray, List.set_cons_zero, List.set_cons_succ])
            refine wpAnyH_take (i := 7) (v := .bool false) rfl (by kernel_rfl) (by kernel_rfl) (by kernel_rfl) (fun _ _ _ h => h) (Or.inl ⟨by kernel_rfl, fun _ hS => by kernel_rfl⟩) hHeld ?_
            (try simp only [Act.put, List.getElem_toArray, List.getElem_cons_succ, List.getElem_cons_zero, List.setIfInBounds_toArray, List.set_cons_zero, List.set_cons_succ])
            refine wpAnyH_take (i := 8) (v := .bool false) rfl (by kernel_rfl) (by kernel_rfl) (by kernel_rfl) (fun _ _ _ h => h) (Or.inl ⟨by kernel_rfl, fun _ hS => by kernel_rfl⟩) hHeld ?_
            (try simp only [Act.put, List.getElem_toArray, List.getElem_cons_succ, List.getElem_cons_zero, List.setIfInBounds_toArray, List.set_cons_zero, List.set_cons_succ])
            refine wpAnyH_take (i := 9) (v := .bool false) rfl (by kernel_rfl) (by kernel_rfl) (by kernel_rfl) (fun _ _ _ h => h) (Or.inl ⟨by kernel_rfl, fun _ hS => by kernel_rfl⟩) hHeld ?_
            (try simp only [Act.put, List.getElem_toArray, List.getElem_cons_succ, List.getElem_cons_zero, List.setIfInBounds_toArray, List.set_cons_zero, List.set_cons_succ])
            refine wpAnyH_take (i := 10) (v := .slice (some ⟨q8, o8, none⟩) 1 c18) rfl (by kernel_rfl) (by kernel_rfl) (by kernel_rfl) (fun _ _ _ h => h) (Or.inl ⟨by kernel_rfl, fun _ hS => by kernel_rfl⟩) hHeld ?_
            (try simp only [Act.put, List.getElem_toArray, List.getElem_cons_succ, List.getElem_cons_zero, List.setIfInBounds_toArray, List.set_cons_zero, List.set_cons_succ])
            refine wpAnyH_take (i := 11) (v := .int .i64 1) rfl (by kernel_rfl) (by kernel_rfl) (by kernel_rfl) (fun _ _ _ h => h) (Or.inl ⟨by kernel_rfl, fun _ hS => by kernel_rfl⟩) hHeld ?_
            (try simp only [Act.put, List.getElem_toArray, List.getElem_cons_succ, List.getElem_cons_zero, List.setIfInBounds_toArray, List.set_cons_zero, List.set_cons_succ])
            refine wpAnyH_take (i := 12) (v := .bool false) rfl (by kernel_rfl) (by kernel_rfl) (by kernel_rfl) (fun _ _ _ h => h) (Or.inl ⟨by kernel_rfl, fun _ hS => by kernel_rfl⟩) hHeld ?_
            (try simp only [Act.put, List.getElem_toArray, List.getElem_cons_succ, List.getElem_cons_zero, List.setIfInBounds_toArray, List.set_cons_zero, List.set_cons_succ])
            refine wpAnyH_take (i := 13) (v := .bool false) rfl (by kernel_rfl) (by kernel_rfl) (by kernel_rfl) (fun _ _ _ h => h) (Or.inl ⟨by kernel_rfl, fun _ hS => by kernel_rfl⟩) hHeld ?_
            (try simp only [Act.put, List.getElem_toArray, List.getElem_cons_succ, List.getElem_cons_zero, List.setIfInBounds_toArray, List.set_cons_zero, List.set_cons_succ])
            refine wpAnyH_take (i := 14) (v := .bool false) rfl (by kernel_rfl) (by kernel_rfl) (by kernel_rfl) (fun _ _ _ h => h) (Or.inl ⟨by kernel_rfl, fun _ hS => by kernel_rfl⟩) hHeld ?_
            (try simp only [Act.put, List.getElem_toArray, List.getElem_cons_succ, List.getElem_cons_zero, List.setIfInBounds_toArray, List.set_cons_zero, List.set_cons_succ])
            refine wpAnyH_take (i := 15) (v := .slice (some ⟨q8, o8, none⟩) 1 c18) rfl (by kernel_rfl) (by kernel_rfl) (by kernel_rfl) (fun _ _ _ h => h) (Or.inl ⟨by kernel_rfl, fun _ hS => by kernel_rfl⟩) hHeld ?_
            (try simp only [Act.put, List.getElem_toArray, List.getElem_cons_succ, List.getElem_cons_zero, List.setIfInBounds_toArray, List.set_cons_zero, List.set_cons_succ])
            refine wpAnyH_take (i := 16) (v := .pointer (some ⟨q8, o8 + 0 * 2, none⟩)) rfl (by kernel_rfl) (by kernel_rfl) (by kernel_rfl) (fun _ _ _ h => h) (Or.inl ⟨by kernel_rfl, fun _ hS => ix_atIo _ _ rfl q8 o8 1 c18 0 rfl rfl (by omega)⟩) hHeld ?_
            (try simp only [Act.put, List.getElem_toArray, List.getElem_cons_succ, List.getElem_cons_zero, List.setIfInBounds_toArray, List.set_cons_zero, List.set_cons_succ])
            refine wpAnyH_take (i := 17) (v := .agg mw.id.cs.toArray) rfl (by kernel_rfl) (by kernel_rfl) (by kernel_rfl) (fun _ _ _ h => h) (yieldsIf_load_mid (by kernel_rfl) 28 _ rfl q8 (o8 + 0 * 2) rfl mw.id.cs _ (fun _ hS => (HRW.out _ hS).2.2.1) ikUnd rfl (HIK.out _)) hHeld ?_
            (try simp only [Act.put, List.getElem_toArray, List.getElem_cons_succ, List.getElem_cons_zero, List.setIfInBounds_toArray, List.set_cons_zero, List.set_cons_succ])
            refine wpAnyH_take (i := 18) (v := .pointer (some ⟨g7, 0, none⟩)) rfl (by kernel_rfl) (by kernel_rfl) (by kernel_rfl) (fun _ _ _ h => h) (Or.inl ⟨by kernel_rfl, fun _ hS => by kernel_rfl⟩) hHeld ?_
            (try simp only [Act.put, List.getElem_toArray, List.getElem_cons_succ, List.getElem_cons_zero, List.setIfInBounds_toArray, List.set_cons_zero, List.set_cons_succ])
            refine wpAnyH_take (i := 19) (v := .agg mw.id.cs.toArray) rfl (by kernel_rfl) (by kernel_rfl) (by kernel_rfl) (fun _ _ _ h => h) (yieldsIf_load_mid (by kernel_rfl) 28 _ rfl g7 0 rfl mw.id.cs _ (fun _ hS => (HRW.out _ hS).2.2.2) ikUnd rfl (HIK.out _)) hHeld ?_
            (try simp only [Act.put, List.getElem_toArray, List.getElem_cons_succ, List.getElem_cons_zero, List.setIfInBounds_toArray, List.set_cons_zero, List.set_cons_succ])
            refine wpAnyH_take (i := 20) (v := .bool false) rfl (by kernel_rfl) (by kernel_rfl) (by kernel_rfl) (fun _ _ _ h => h) (Or.inl ⟨by kernel_rfl, fun _ hS => ik_ne_run _ _ rfl mw.id mw.id rfl rfl (by simp)⟩) hHeld ?_
            (try simp only [Act.put, List.getElem_toArray, List.getElem_cons_succ, List.getElem_cons_zero, List.setIfInBounds_toArray, List.set_cons_zero, List.set_cons_succ])
            refine wpAnyH_take (i := 21) (v := .bool false) rfl (by kernel_rfl) (by kernel_rfl) (by kernel_rfl) (fun _ _ _ h => h) (Or.inl ⟨by kernel_rfl, fun _ hS => by kernel_rfl⟩) hHeld ?_
            (try simp only [Act.put, List.getElem_toArray, List.getElem_cons_succ, List.getElem_cons_zero, List.setIfInBounds_toArray, List.set_cons_zero, List.set_cons_succ])
            have HE28 := Lib.hid hHeld
            refine wpAnyH_done (by kernel_rfl) ?_ _
            clear hHeld
            go_upto_region 30 with (fail)
            obtain ⟨w19, hw19⟩ : ∃ x, x = wb := ⟨_, rfl⟩
            have h19 : Below w18.heap.size w18 w19 := by rw [hw19]; exact HE28.out
            rw [← hw19]
            have h1319 : Below w13.heap.size w13 w19 := HB18.out.1.trans (h19.mono HB18.out.1.size)
            have H19 := Lib.hid (And.intro h1319 (HB18.out.2.1.trans (h19.mono HB18.out.2.1.size)))
            have HGL19 := Lib.hid (HGL13.out.below h1319)
            have hrow7 : ∀ wz, Below w19.heap.size w19 wz → wz.rangeAt g7 0 mw.id.cs := fun wz hz => (HRW.out wz (h19.trans (hz.mono h19.size))).2.2.2
            have HR7 := Lib.hid hrow7
            have hsh9 : ∀ wx w0 A c, Below w19.heap.size w19 w0 → IkG w0 (fun b => b < w0.heap.size) A c (gl ++ [mw.id]) → wx = w0.alloc (.cells #[.slice A (kg + 1) c] 38) → Below w19.heap.size w19 wx ∧ Calls Tryz.prog 15 #[.pointer (some ⟨p, 0, none⟩), .func (.func 39) #[] #[.pointer (some ⟨w0.heap.size, 0, none⟩)]] wx (IdsP wx S1) := fun wx w0 A c hz hi he => by
              have hl : kg + 1 = (gl ++ [mw.id]).length := by rw [List.length_append, List.length_singleton, HKG.out]
              have hin := in_at hi hl (Below.refl _ _) he
              have hx : Below w19.heap.size w19 wx := hz.trans (hin.2.mono hz.size)
              refine ⟨hx, ?_⟩
              have h := (HC13.out wx (h1319.trans (hx.mono h1319.size)) _ _ hin.1).1
              rw [HONE.out.2, ← HS1.out.1] at h
              exact h
            have HS9 := Lib.hid hsh9
            clear hw19 h19 h1319 hrow7 hsh9 HRW HSM2 HE28 HC13 HONE HPUT HRX
            go_cut [18] (fun v wx => ∃ A20 c20, v = .slice A20 n1 c20 ∧ Hid (Below w19.heap.size w19 wx ∧ IkG wx (fun b => b < wx.heap.size) A20 c20 S1))
            case first =>
             refine wp_region_held_drew (S := fun wx => Below w19.heap.size w19 wx) (by kernel_rfl) (Below.refl _ _).drew (fun hHeld => ?_)
             obtain ⟨wa, hwa⟩ : ∃ x, x = w19.drew := ⟨_, rfl⟩
             rw [← hwa] at hHeld ⊢
             clear hwa
             refine wpAnyH_take (i := 0) (v := .pointer (some ⟨p, 0, none⟩)) rfl (by kernel_rfl) (by kernel_rfl) (by kernel_rfl) (fun _ _ _ h => h) (Or.inl ⟨by kernel_rfl, fun _ hS => by kernel_rfl⟩) hHeld ?_
             (try simp only [Act.put, List.getElem_toArray, List.getElem_cons_succ, List.getElem_cons_zero, List.setIfInBounds_toArray, List.set_cons_zero, List.set_cons_succ])
             refine wpAnyH_take (i := 2) (v := .slice A1 kg c1) rfl (by kernel_rfl) (by kernel_rfl) (by kernel_rfl) (fun _ _ _ h => h) (Or.inl ⟨by kernel_rfl, fun _ hS => by kernel_rfl⟩) hHeld ?_
             (try simp only [Act.put, List.getElem_toArray, List.getElem_cons_succ, List.getElem_cons_zero, List.setIfInBounds_toArray, List.set_cons_zero, List.set_cons_succ])
             refine wpAnyH_take (i := 4) (v := .pointer (some ⟨g7, 0, none⟩)) rfl (by kernel_rfl) (by kernel_rfl) (by kernel_rfl) (fun _ _ _ h => h) (Or.inl ⟨by kernel_rfl, fun _ hS => by kernel_rfl⟩) hHeld ?_
             (try simp only [Act.put, List.getElem_toArray, List.getElem_cons_succ, List.getElem_cons_zero, List.setIfInBounds_toArray, List.set_cons_zero, List.set_cons_succ])
             refine wpAnyH_take (i := 5) (v := .agg mw.id.cs.toArray) rfl (by kernel_rfl) (by kernel_rfl) (by kernel_rfl) (fun _ _ _ h => h) (yieldsIf_load_mid (by kernel_rfl) 28 _ rfl g7 0 rfl mw.id.cs _ (fun _ hS => HR7.out _ hS) ikUnd rfl (HIK.out _)) hHeld ?_
             (try simp only [Act.put, List.getElem_toArray, List.getElem_cons_succ, List.getElem_cons_zero, List.setIfInBounds_toArray, List.set_cons_zero, List.set_cons_succ])
             refine wpAnyH_ready (rs := [1, 6]) (by kernel_rfl) (by simp) ?_
             refine AllReadyH.cons rfl (fun K hK => ?_) (AllReadyH.cons rfl (fun K hK => ?_) AllReadyH.nil)
             · skip
               obtain ⟨wb1, hwb1⟩ : ∃ x, x = wa.alloc (.cells #[] 28) := ⟨_, rfl⟩
               obtain ⟨g1, hg1⟩ : ∃ x, x = wa.heap.size := ⟨_, rfl⟩
               have hbn : Below wa.heap.size wa wb1 := by rw [hwb1]; exact (bel1 _ _).1
               have hown : wb1.ownsRow w19.heap.size 28 2 (.slice (some ⟨g1, 0, none⟩) 0 0) 0 (ikCells []) := by rw [hwb1, hg1]; exact own_none _ _ hHeld.size
               refine step_of rfl (wp_noIds rfl ?_)
               rw [← hwb1, ← hg1]
               have hbn2 := hHeld.trans (hbn.mono hHeld.size)
               refine hK.out _ _ hbn2 (fun hHeld1 => ?_)
               clear hK K hHeld hbn2
               have hHeld := hHeld1
               clear hHeld1
               (try simp only [Act.put, List.getElem_toArray, List.getElem_cons_succ, List.getElem_cons_zero, List.setIfInBounds_toArray, List.set_cons_zero, List.set_cons_succ])
               clear hbn hwb1 hg1
               refine wpAnyH_ready (rs := [3, 6]) (by kernel_rfl) (by simp) ?_
               refine AllReadyH.cons rfl (fun K hK => ?_) (AllReadyH.cons rfl (fun K hK => ?_) AllReadyH.nil)
               · skip
                 refine step_of rfl (wp_append_ik (.tmp 127) (.tmp 128) rfl w19.heap.size (.slice (some ⟨g1, 0, none⟩) 0 0) 0 kg kg [] gl rfl hown A1 c1 _ rfl (HGL19.out.below (hHeld.mono H19.out.1.size)) HKG.out HIG.out.2 (by omega) (by omega) hHeld.size ?_)
                 intro A3 c3 wb3 ho3 hg3
                 have hbn2 : Below w19.heap.size w19 wb3 := hHeld.grown hg3 hHeld.size (own_base hown)
                 refine hK.out _ _ hbn2 (fun hHeld1 => ?_)
                 clear hK K hHeld hbn2
                 have hHeld := hHeld1
                 clear hHeld1
                 (try simp only [Act.put, List.getElem_toArray, List.getElem_cons_succ, List.getElem_cons_zero, List.setIfInBounds_toArray, List.set_cons_zero, List.set_cons_succ])
                 clear hown hg3
                 have hown := ho3
                 clear ho3
                 refine wpAnyH_ready (rs := [6]) (by kernel_rfl) (by simp) ?_
                 refine AllReadyH.cons rfl (fun K hK => ?_) AllReadyH.nil
                 obtain ⟨wb6, hwb6⟩ : ∃ x, x = wb3.alloc (.cells mw.id.cs.toArray 28) := ⟨_, rfl⟩
                 obtain ⟨g6, hg6⟩ : ∃ x, x = wb3.heap.size := ⟨_, rfl⟩
                 have hbn : Below wb3.heap.size wb3 wb6 := by rw [hwb6]; exact (bel1 _ _).1
                 have hown2 : ApS wb6 w19.heap.size (.slice A3 kg c3) kg ([] ++ gl) g6 mw.id := by rw [hwb6, hg6]; exact ApS.first hown mw.id
                 refine step_oneId (wanted_none rfl) 131 rfl mw.id.cs.toArray rfl rfl ?_
                 rw [← hwb6, ← hg6]
                 have hbn2 := hHeld.trans (hbn.mono hHeld.size)
                 refine hK.out _ _ hbn2 (fun hHeld1 => ?_)
                 clear hK K hHeld hbn2
                 have hHeld := hHeld1
                 clear hHeld1
                 (try simp only [Act.put, List.getElem_toArray, List.getElem_cons_succ, List.getElem_cons_zero, List.setIfInBounds_toArray, List.set_cons_zero, List.set_cons_succ])
                 clear hbn hwb6 hg6
                 clear hown
                 have hown := hown2
                 clear hown2
                 refine wpAnyH_ready (rs := [7]) (by kernel_rfl) (by simp) ?_
                 refine AllReadyH.cons rfl (fun K hK => ?_) AllReadyH.nil
                 refine step_of rfl (wp_append_ik (.tmp 129) (.tmp 132) rfl w19.heap.size (.slice A3 kg c3) kg 1 (kg + 1) ([] ++ gl) [mw.id] rfl hown.1 (some ⟨g6, 0, none⟩) 1 _ rfl (ikG_one hown.2.1) rfl (fun e => by cases e) rfl (by omega) hHeld.size ?_)
                 intro A7 c7 wb7 ho7 hg7
                 have hbn2 : Below w19.heap.size w19 wb7 := hHeld.grown hg7 hHeld.size (own_base hown.1)
                 have hik7 : IkG wb7 (fun b => b < wb7.heap.size) A7 c7 (gl ++ [mw.id]) := (own_ikG ho7 (by rw [List.nil_append, List.length_append, List.length_singleton, HKG.out])).mono (fun k hk => hk.2)
                 refine hK.out _ _ hbn2 (fun hHeld1 => ?_)
                 clear hK K hHeld hbn2
                 have hHeld := hHeld1
                 clear hHeld1
                 (try simp only [Act.put, List.getElem_toArray, List.getElem_cons_succ, List.getElem_cons_zero, List.setIfInBounds_toArray, List.set_cons_zero, List.set_cons_succ])
                 clear hg7 ho7
                 refine wpAnyH_ready (rs := [8]) (by kernel_rfl) (by simp) ?_
                 refine AllReadyH.cons rfl (fun K hK => ?_) AllReadyH.nil
                 go_simp
                 refine (HINC.out _ _ _ _).mono ?_
                 rintro e w7b ⟨rfl, hin⟩
                 have HINB := Lib.hid hin
                 clear hin
                 try go_simp
                 have h9 := HS9.out w7b wb7 A7 c7 hHeld hik7 HINB.out
                 have hb9 := h9.1
                 have H9 := Lib.hid h9.2
                 clear h9
                 refine hK.out _ _ hb9 (fun hHeld1 => ?_)
                 clear hK K hHeld hb9
                 have hHeld := hHeld1
                 clear hHeld1
                 (try simp only [Act.put, List.getElem_toArray, List.getElem_cons_succ, List.getElem_cons_zero, List.setIfInBounds_toArray, List.set_cons_zero, List.set_cons_succ])
                 refine wpAnyH_ready (rs := [9]) (by kernel_rfl) (by simp) ?_
                 refine AllReadyH.cons rfl (fun K hK => ?_) AllReadyH.nil
                 go_simp
                 refine H9.out.mono ?_
                 rintro e w7c ⟨A20, c20, rfl, hb20, ho20⟩
                 try go_simp
                 have hik20 := (own_ikG ho20 rfl).mono (fun (k : Nat) hk => hk.2)
                 have hb21 := hHeld.trans (hb20.mono hHeld.size)
                 rw [← HS1.out.2]
                 refine hK.out _ _ hb21 (fun hHeld1 => ?_)
                 clear hK K hHeld hb21
                 have hHeld := hHeld1
                 clear hHeld1
                 (try simp only [Act.put, List.getElem_toArray, List.getElem_cons_succ, List.getElem_cons_zero, List.setIfInBounds_toArray, List.set_cons_zero, List.set_cons_succ])
                 refine wpAnyH_take (i := 10) (v := .slice A20 n1 c20) rfl (by kernel_rfl) (by kernel_rfl) (by kernel_rfl) (fun _ _ _ h => h) (Or.inl ⟨by kernel_rfl, fun _ hS => by kernel_rfl⟩) hHeld ?_
                 (try simp only [Act.put, List.getElem_toArray, List.getElem_cons_succ, List.getElem_cons_zero, List.setIfInBounds_toArray, List.set_cons_zero, List.set_cons_succ])
                 have HE30 := Lib.hid hHeld
                 refine wpAnyH_done (by kernel_rfl) ?_ _
                 clear hHeld
                 go_wp2_with fail
                 go_meet
                 exact ⟨A20, c20, rfl, Lib.hid ⟨HE30.out, hik20⟩⟩
               · skip
                 obtain ⟨wb6, hwb6⟩ : ∃ x, x = wb1.alloc (.cells mw.id.cs.toArray 28) := ⟨_, rfl⟩
                 obtain ⟨g6, hg6⟩ : ∃ x, x = wb1.heap.size := ⟨_, rfl⟩
                 have hbn : Below wb1.heap.size wb1 wb6 := by rw [hwb6]; exact (bel1 _ _).1
                 have hown2 : ApS wb6 w19.heap.size (.slice (some ⟨g1, 0, none⟩) 0 0) 0 ([]) g6 mw.id := by rw [hwb6, hg6]; exact ApS.first hown mw.id
                 refine step_oneId (wanted_none rfl) 131 rfl mw.id.cs.toArray rfl rfl ?_
                 rw [← hwb6, ← hg6]
                 have hbn2 := hHeld.trans (hbn.mono hHeld.size)
                 refine hK.out _ _ hbn2 (fun hHeld1 => ?_)
                 clear hK K hHeld hbn2
                 have hHeld := hHeld1
                 clear hHeld1
                 (try simp only [Act.put, List.getElem_toArray, List.getElem_cons_succ, List.getElem_cons_zero, List.setIfInBounds_toArray, List.set_cons_zero, List.set_cons_succ])
                 clear hbn hwb6 hg6
                 clear hown
                 have hown := hown2
                 clear hown2
                 refine wpAnyH_ready (rs := [3]) (by kernel_rfl) (by simp) ?_
                 refine AllReadyH.cons rfl (fun K hK => ?_) AllReadyH.nil
                 refine step_of rfl (wp_append_ik (.tmp 127) (.tmp 128) rfl w19.heap.size (.slice (some ⟨g1, 0, none⟩) 0 0) 0 kg kg [] gl rfl hown.1 A1 c1 _ rfl (HGL19.out.below (hHeld.mono H19.out.1.size)) HKG.out HIG.out.2 (by omega) (by omega) hHeld.size ?_)
                 intro A3 c3 wb3 ho3 hg3
                 have hbn2 : Below w19.heap.size w19 wb3 := hHeld.grown hg3 hHeld.size (own_base hown.1)
                 have hsix := hown.beside hg3
                 refine hK.out _ _ hbn2 (fun hHeld1 => ?_)
                 clear hK K hHeld hbn2
                 have hHeld := hHeld1
                 clear hHeld1
                 (try simp only [Act.put, List.getElem_toArray, List.getElem_cons_succ, List.getElem_cons_zero, List.setIfInBounds_toArray, List.set_cons_zero, List.set_cons_succ])
                 clear hown hg3
                 have hown := ho3
                 clear ho3
                 refine wpAnyH_ready (rs := [7]) (by kernel_rfl) (by simp) ?_
                 refine AllReadyH.cons rfl (fun K hK => ?_) AllReadyH.nil
                 refine step_of rfl (wp_append_ik (.tmp 129) (.tmp 132) rfl w19.heap.size (.slice A3 kg c3) kg 1 (kg + 1) ([] ++ gl) [mw.id] rfl hown (some ⟨g6, 0, none⟩) 1 _ rfl (ikG_one hsix) rfl (fun e => by cases e) rfl (by omega) hHeld.size ?_)
                 intro A7 c7 wb7 ho7 hg7
                 have hbn2 : Below w19.heap.size w19 wb7 := hHeld.grown hg7 hHeld.size (own_base hown)
                 have hik7 : IkG wb7 (fun b => b < wb7.heap.size) A7 c7 (gl ++ [mw.id]) := (own_ikG ho7 (by rw [List.nil_append, List.length_append, List.length_singleton, HKG.out])).mono (fun k hk => hk.2)
                 refine hK.out _ _ hbn2 (fun hHeld1 => ?_)
                 clear hK K hHeld hbn2
                 have hHeld := hHeld1
                 clear hHeld1
                 (try simp only [Act.put, List.getElem_toArray, List.getElem_cons_succ, List.getElem_cons_zero, List.setIfInBounds_toArray, List.set_cons_zero, List.set_cons_succ])
                 clear hg7 ho7
                 refine wpAnyH_ready (rs := [8]) (by kernel_rfl) (by simp) ?_
                 refine AllReadyH.cons rfl (fun K hK => ?_) AllReadyH.nil
                 go_simp
                 refine (HINC.out _ _ _ _).mono ?_
                 rintro e w7b ⟨rfl, hin⟩
                 have HINB := Lib.hid hin
                 clear hin
                 try go_simp
                 have h9 := HS9.out w7b wb7 A7 c7 hHeld hik7 HINB.out
                 have hb9 := h9.1
                 have H9 := Lib.hid h9.2
                 clear h9
                 refine hK.out _ _ hb9 (fun hHeld1 => ?_)
                 clear hK K hHeld hb9
                 have hHeld := hHeld1
                 clear hHeld1
                 (try simp only [Act.put, List.getElem_toArray, List.getElem_cons_succ, List.getElem_cons_zero, List.setIfInBounds_toArray, List.set_cons_zero, List.set_cons_succ])
                 refine wpAnyH_ready (rs := [9]) (by kernel_rfl) (by simp) ?_
                 refine AllReadyH.cons rfl (fun K hK => ?_) AllReadyH.nil
                 go_simp
                 refine H9.out.mono ?_
                 rintro e w7c ⟨A20, c20, rfl, hb20, ho20⟩
                 try go_simp
                 have hik20 := (own_ikG ho20 rfl).mono (fun (k : Nat) hk => hk.2)
                 have hb21 := hHeld.trans (hb20.mono hHeld.size)
                 rw [← HS1.out.2]
                 refine hK.out _ _ hb21 (fun hHeld1 => ?_)
                 clear hK K hHeld hb21
                 have hHeld := hHeld1
                 clear hHeld1
                 (try simp only [Act.put, List.getElem_toArray, List.getElem_cons_succ, List.getElem_cons_zero, List.setIfInBounds_toArray, List.set_cons_zero, List.set_cons_succ])
                 refine wpAnyH_take (i := 10) (v := .slice A20 n1 c20) rfl (by kernel_rfl) (by kernel_rfl) (by kernel_rfl) (fun _ _ _ h => h) (Or.inl ⟨by kernel_rfl, fun _ hS => by kernel_rfl⟩) hHeld ?_
                 (try simp only [Act.put, List.getElem_toArray, List.getElem_cons_succ, List.getElem_cons_zero, List.setIfInBounds_toArray, List.set_cons_zero, List.set_cons_succ])
                 have HE30 := Lib.hid hHeld
                 refine wpAnyH_done (by kernel_rfl) ?_ _
                 clear hHeld
                 go_wp2_with fail
                 go_meet
                 exact ⟨A20, c20, rfl, Lib.hid ⟨HE30.out, hik20⟩⟩
             · skip
               obtain ⟨wb6, hwb6⟩ : ∃ x, x = wa.alloc (.cells mw.id.cs.toArray 28) := ⟨_, rfl⟩
               obtain ⟨g6, hg6⟩ : ∃ x, x = wa.heap.size := ⟨_, rfl⟩
               have hbn : Below wa.heap.size wa wb6 := by rw [hwb6]; exact (bel1 _ _).1
               have hsix : wb6.heap[g6]? = some (.cells mw.id.cs.toArray 28) := by rw [hwb6, hg6]; exact heap_alloc_new _ _
               refine step_oneId (wanted_none rfl) 131 rfl mw.id.cs.toArray rfl rfl ?_
               rw [← hwb6, ← hg6]
               have hbn2 := hHeld.trans (hbn.mono hHeld.size)
               refine hK.out _ _ hbn2 (fun hHeld1 => ?_)
               clear hK K hHeld hbn2
               have hHeld := hHeld1
               clear hHeld1
               (try simp only [Act.put, List.getElem_toArray, List.getElem_cons_succ, List.getElem_cons_zero, List.setIfInBounds_toArray, List.set_cons_zero, List.set_cons_succ])
               clear hbn hwb6 hg6
               refine wpAnyH_ready (rs := [1]) (by kernel_rfl) (by simp) ?_
               refine AllReadyH.cons rfl (fun K hK => ?_) AllReadyH.nil
               obtain ⟨wb1, hwb1⟩ : ∃ x, x = wb6.alloc (.cells #[] 28) := ⟨_, rfl⟩
               obtain ⟨g1, hg1⟩ : ∃ x, x = wb6.heap.size := ⟨_, rfl⟩
               have hbn : Below wb6.heap.size wb6 wb1 := by rw [hwb1]; exact (bel1 _ _).1
               have hown : ApS wb1 w19.heap.size (.slice (some ⟨g1, 0, none⟩) 0 0) 0 [] g6 mw.id := by rw [hwb1, hg1]; exact ApS.then_ hHeld.size hsix
               refine step_of rfl (wp_noIds rfl ?_)
               rw [← hwb1, ← hg1]
               have hbn2 := hHeld.trans (hbn.mono hHeld.size)
               refine hK.out _ _ hbn2 (fun hHeld1 => ?_)
               clear hK K hHeld hbn2
               have hHeld := hHeld1
               clear hHeld1
               (try simp only [Act.put, List.getElem_toArray, List.getElem_cons_succ, List.getElem_cons_zero, List.setIfInBounds_toArray, List.set_cons_zero, List.set_cons_succ])
               clear hbn hwb1 hg1
               clear hsix
               refine wpAnyH_ready (rs := [3]) (by kernel_rfl) (by simp) ?_
               refine AllReadyH.cons rfl (fun K hK => ?_) AllReadyH.nil
               refine step_of rfl (wp_append_ik (.tmp 127) (.tmp 128) rfl w19.heap.size (.slice (some ⟨g1, 0, none⟩) 0 0) 0 kg kg [] gl rfl hown.1 A1 c1 _ rfl (HGL19.out.below (hHeld.mono H19.out.1.size)) HKG.out HIG.out.2 (by omega) (by omega) hHeld.size ?_)
               intro A3 c3 wb3 ho3 hg3
               have hbn2 : Below w19.heap.size w19 wb3 := hHeld.grown hg3 hHeld.size (own_base hown.1)
               have hsix := hown.beside hg3
               refine hK.out _ _ hbn2 (fun hHeld1 => ?_)
               clear hK K hHeld hbn2
               have hHeld := hHeld1
               clear hHeld1
               (try simp only [Act.put, List.getElem_toArray, List.getElem_cons_succ, List.getElem_cons_zero, List.setIfInBounds_toArray, List.set_cons_zero, List.set_cons_succ])
               clear hown hg3
               have hown := ho3
               clear ho3
               refine wpAnyH_ready (rs := [7]) (by kernel_rfl) (by simp) ?_
               refine AllReadyH.cons rfl (fun K hK => ?_) AllReadyH.nil
               refine step_of rfl (wp_append_ik (.tmp 129) (.tmp 132) rfl w19.heap.size (.slice A3 kg c3) kg 1 (kg + 1) ([] ++ gl) [mw.id] rfl hown (some ⟨g6, 0, none⟩) 1 _ rfl (ikG_one hsix) rfl (fun e => by cases e) rfl (by omega) hHeld.size ?_)
               intro A7 c7 wb7 ho7 hg7
               have hbn2 : Below w19.heap.size w19 wb7 := hHeld.grown hg7 hHeld.size (own_base hown)
               have hik7 : IkG wb7 (fun b => b < wb7.heap.size) A7 c7 (gl ++ [mw.id]) := (own_ikG ho7 (by rw [List.nil_append, List.length_append, List.length_singleton, HKG.out])).mono (fun k hk => hk.2)
               refine hK.out _ _ hbn2 (fun hHeld1 => ?_)
               clear hK K hHeld hbn2
               have hHeld := hHeld1
               clear hHeld1
               (try simp only [Act.put, List.getElem_toArray, List.getElem_cons_succ, List.getElem_cons_zero, List.setIfInBounds_toArray, List.set_cons_zero, List.set_cons_succ])
               clear hg7 ho7
               refine wpAnyH_ready (rs := [8]) (by kernel_rfl) (by simp) ?_
               refine AllReadyH.cons rfl (fun K hK => ?_) AllReadyH.nil
               go_simp
               refine (HINC.out _ _ _ _).mono ?_
               rintro e w7b ⟨rfl, hin⟩
               have HINB := Lib.hid hin
               clear hin
               try go_simp
               have h9 := HS9.out w7b wb7 A7 c7 hHeld hik7 HINB.out
               have hb9 := h9.1
               have H9 := Lib.hid h9.2
               clear h9
               refine hK.out _ _ hb9 (fun hHeld1 => ?_)
               clear hK K hHeld hb9
               have hHeld := hHeld1
               clear hHeld1
               (try simp only [Act.put, List.getElem_toArray, List.getElem_cons_succ, List.getElem_cons_zero, List.setIfInBounds_toArray, List.set_cons_zero, List.set_cons_succ])
               refine wpAnyH_ready (rs := [9]) (by kernel_rfl) (by simp) ?_
               refine AllReadyH.cons rfl (fun K hK => ?_) AllReadyH.nil
               go_simp
               refine H9.out.mono ?_
               rintro e w7c ⟨A20, c20, rfl, hb20, ho20⟩
               try go_simp
               have hik20 := (own_ikG ho20 rfl).mono (fun (k : Nat) hk => hk.2)
               have hb21 := hHeld.trans (hb20.mono hHeld.size)
               rw [← HS1.out.2]
               refine hK.out _ _ hb21 (fun hHeld1 => ?_)
               clear hK K hHeld hb21
               have hHeld := hHeld1
               clear hHeld1
               (try simp only [Act.put, List.getElem_toArray, List.getElem_cons_succ, List.getElem_cons_zero, List.setIfInBounds_toArray, List.set_cons_zero, List.set_cons_succ])
               refine wpAnyH_take (i := 10) (v := .slice A20 n1 c20) rfl (by kernel_rfl) (by kernel_rfl) (by kernel_rfl) (fun _ _ _ h => h) (Or.inl ⟨by kernel_rfl, fun _ hS => by kernel_rfl⟩) hHeld ?_
               (try simp only [Act.put, List.getElem_toArray, List.getElem_cons_succ, List.getElem_cons_zero, List.setIfInBounds_toArray, List.set_cons_zero, List.set_cons_succ])
               have HE30 := Lib.hid hHeld
               refine wpAnyH_done (by kernel_rfl) ?_ _
               clear hHeld
               go_wp2_with fail
               go_meet
               exact ⟨A20, c20, rfl, Lib.hid ⟨HE30.out, hik20⟩⟩
            case rest =>
             obtain ⟨A20, c20, rfl, hcut⟩ := hcut
             obtain ⟨w20, hw20⟩ : ∃ x, x = wc := ⟨_, rfl⟩
             rw [← hw20] at hcut ⊢
             clear hw20
             have HCUT := hcut
             clear hcut
             have hwas20 : IkG w20 (fun b => b < w20.heap.size) A12 c12 S1 := HWAS.out.below (H19.out.1.trans (HCUT.out.1.mono H19.out.1.size)) |>.mono (fun b hb => Nat.lt_of_lt_of_le hb (H19.out.1.trans (HCUT.out.1.mono H19.out.1.size)).size)
             have HWAS20 := Lib.hid hwas20
             have HN1 := Lib.hid HS1.out.2
             have hn1 : n1 ≤ 100000 := by rw [HS1.out.2, HS1.out.1]; unfold idsW standW; rw [List.length_map]; exact Nat.le_trans (List.length_filter_le _ _) (by have := HMM.out.1; omega)
             have HBW20 := Lib.hid (H19.out.2.trans (HCUT.out.1.mono H19.out.2.size))
             have hst20 : MoK w20 n1 (.int .i64 0) w20 := ⟨0, Nat.zero_le _, rfl, Lib.hid (Below.refl _ _)⟩
             have HST20 := Lib.hid hst20
             clear hwas20 hst20
             go_wp2
             go_loopw [143] (fun iv wr => MoK w20 n1 iv wr) (fun iv _ => n1 - (intOf iv).toNat)
             case atStart => exact HST20.out
             case round =>
              obtain ⟨i, hin, rfl, hR3⟩ := hrel
              by_cases hi : i < n1
              · have hiI : (i : Int) < (n1 : Int) := by omega
                have hi0 : (0 : Int) ≤ i := by omega
                have htl : i < S1.length := by rw [← HN1.out]; exact hi
                obtain ⟨qb, ob, hA20, hqb, hrb⟩ := HCUT.out.2.at_ i htl
                obtain ⟨qw, ow, hA12, hqw, hrw⟩ := HWAS20.out.at_ i htl
                subst hA20
                subst hA12
                obtain ⟨x, hx⟩ : ∃ x, x = S1[i] := ⟨_, rfl⟩
                rw [← hx] at hrb hrw
                have hrows : ∀ wz, Below wr.heap.size wr wz → wz.rangeAt qb (ob + i * 2) x.cs ∧ wz.rangeAt qw (ow + i * 2) x.cs := fun wz hz => by
                  have h := hR3.out.trans (hz.mono hR3.out.size)
                  exact ⟨fun j v hv => (World.cell?_of_block (a := ⟨qb, ob + i * 2 + j, none⟩) (h.block qb hqb)).trans (hrb j v hv), fun j v hv => (World.cell?_of_block (a := ⟨qw, ow + i * 2 + j, none⟩) (h.block qw hqw)).trans (hrw j v hv)⟩
                have HRW := Lib.hid hrows
                clear hrb hrw hqb hqw hx hrows htl
                go_upto_region 36 with (fail)
                refine wp_region_held_drew (S := fun wx => Below wr.heap.size wr wx) (by kernel_rfl) (Below.refl _ _).drew (fun hHeld => ?_)
                obtain ⟨wa, hwa⟩ : ∃ x, x = wr.drew := ⟨_, rfl⟩
                rw [← hwa] at hHeld ⊢
                clear hwa
                refine wpAnyH_take (i := 0) (v := .slice (some ⟨qb, ob, none⟩) n1 c20) rfl (by kernel_rfl) (by kernel_rfl) (by kernel_rfl) (fun _ _ _ h => h) (Or.inl ⟨by kernel_rfl, fun _ hS => by kernel_rfl⟩) hHeld ?_
                (try simp only [Act.put, List.getElem_toArray, List.getElem_cons_succ, List.getElem_cons_zero, List.setIfInBounds_toArray, List.set_cons_zero, List.set_cons_succ])
                refine wpAnyH_take (i := 1) (v := .int .i64 (i : Nat)) rfl (by kernel_rfl) (by kernel_rfl) (by kernel_rfl) (fun _ _ _ h => h) (Or.inl ⟨by kernel_rfl, fun _ hS => by kernel_rfl⟩) hHeld ?_
                (try simp only [Act.put, List.getElem_toArray, List.getElem_cons_succ, List.getElem_cons_zero, List.setIfInBounds_toArray, List.set_cons_zero, List.set_cons_succ])
                refine wpAnyH_take (i := 2) (v := .pointer (some ⟨qb, ob + i * 2, none⟩)) rfl (by kernel_rfl) (by kernel_rfl) (by kernel_rfl) (fun _ _ _ h => h) (Or.inl ⟨by kernel_rfl, fun _ hS => ix_atIo _ _ rfl qb ob n1 c20 i rfl rfl hi⟩) hHeld ?_
                (try simp only [Act.put, List.getElem_toArray, List.getElem_cons_succ, List.getElem_cons_zero, List.setIfInBounds_toArray, List.set_cons_zero, List.set_cons_succ])
                refine wpAnyH_take (i := 3) (v := .agg x.cs.toArray) rfl (by kernel_rfl) (by kernel_rfl) (by kernel_rfl) (fun _ _ _ h => h) (yieldsIf_load_mid (by kernel_rfl) 28 _ rfl qb (ob + i * 2) rfl x.cs _ (fun _ hS => (HRW.out _ hS).1) ikUnd rfl (HIK.out _)) hHeld ?_
                (try simp only [Act.put, List.getElem_toArray, List.getElem_cons_succ, List.getElem_cons_zero, List.setIfInBounds_toArray, List.set_cons_zero, List.set_cons_succ])
                refine wpAnyH_take (i := 4) (v := .slice (some ⟨qw, ow, none⟩) n1 c12) rfl (by kernel_rfl) (by kernel_rfl) (by kernel_rfl) (fun _ _ _ h => h) (Or.inl ⟨by kernel_rfl, fun _ hS => by kernel_rfl⟩) hHeld ?_
                (try simp only [Act.put, List.getElem_toArray, List.getElem_cons_succ, List.getElem_cons_zero, List.setIfInBounds_toArray, List.set_cons_zero, List.set_cons_succ])
                refine wpAnyH_take (i := 5) (v := .int .i64 (i : Nat)) rfl (by kernel_rfl) (by kernel_rfl) (by kernel_rfl) (fun _ _ _ h => h) (Or.inl ⟨by kernel_rfl, fun _ hS => by kernel_rfl⟩) hHeld ?_
                (try simp only [Act.put, List.getElem_toArray, List.getElem_cons_succ, List.getElem_cons_zero, List.setIfInBounds_toArray, List.set_cons_zero, List.set_cons_succ])
                refine wpAnyH_take (i := 6) (v := .pointer (some ⟨qw, ow + i * 2, none⟩)) rfl (by kernel_rfl) (by kernel_rfl) (by kernel_rfl) (fun _ _ _ h => h) (Or.inl ⟨by kernel_rfl, fun _ hS => ix_atIo _ _ rfl qw ow n1 c12 i rfl rfl hi⟩) hHeld ?_
                (try simp only [Act.put, List.getElem_toArray, List.getElem_cons_succ, List.getElem_cons_zero, List.setIfInBounds_toArray, List.set_cons_zero, List.set_cons_succ])
                refine wpAnyH_take (i := 7) (v := .agg x.cs.toArray) rfl (by kernel_rfl) (by kernel_rfl) (by kernel_rfl) (fun _ _ _ h => h) (yieldsIf_load_mid (by kernel_rfl) 28 _ rfl qw (ow + i * 2) rfl x.cs _ (fun _ hS => (HRW.out _ hS).2) ikUnd rfl (HIK.out _)) hHeld ?_
                (try simp only [Act.put, List.getElem_toArray, List.getElem_cons_succ, List.getElem_cons_zero, List.setIfInBounds_toArray, List.set_cons_zero, List.set_cons_succ])
                refine wpAnyH_take (i := 8) (v := .bool false) rfl (by kernel_rfl) (by kernel_rfl) (by kernel_rfl) (fun _ _ _ h => h) (Or.inl ⟨by kernel_rfl, fun _ hS => ik_ne_run _ _ rfl x x rfl rfl (by simp)⟩) hHeld ?_
                (try simp only [Act.put, List.getElem_toArray, List.getElem_cons_succ, List.getElem_cons_zero, List.setIfInBounds_toArray, List.set_cons_zero, List.set_cons_succ])
                have HE36 := Lib.hid hHeld
                refine wpAnyH_done (by kernel_rfl) ?_ _
                clear hHeld
                go_wp2
                go_roundw
                case measure => simp [intOf]; omega
                case rel => exact ⟨i + 1, by omega, by go_num, Lib.hid (hR3.out.trans (HE36.out.mono hR3.out.size))⟩
              · have hie : n1 = i := by omega
                subst hie
                have hiI : ¬ ((n1 : Int) < (n1 : Int)) := by omega
                go_wp2
                first | go_ret | go_ret2 | (refine bodyPost_ret (results_tmp rfl _ _ _) rfl ?_)
                exact ⟨by kernel_rfl, HBW20.out.trans (hR3.out.mono HBW20.out.size)⟩
end Go.Proofs.YtbiacjkkgddclaaGreat
