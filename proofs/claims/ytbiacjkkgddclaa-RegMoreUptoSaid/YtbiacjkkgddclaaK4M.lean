/- RegMore: the walk. -/
import Derived.Test.YtbiacjkkgddclaaK0K3
namespace Go.Proofs.Ytbiacjkkgddclaa
set_option linter.unusedSimpArgs false
set_option linter.unusedVariables false
open Go Go.RowKit Go.Shelf Go.Maps

set_option maxRecDepth 100000 in
set_option maxHeartbeats 16000000 in
theorem regMore_walk (l : List Wr) (gl ml : List Ik) (w : World) (A A1 A2 : Option Addr) (c c1 c2 : Nat) (hrow : RowW w (fun k => k < w.heap.size) (fun k => k < w.heap.size) A c l) (hok : ∀ m ∈ l, inOk m) (hg1 : IkG w (fun k => k < w.heap.size) A1 c1 gl) (hz1 : A1 = none → c1 = 0) (hg2 : IkG w (fun k => k < w.heap.size) A2 c2 ml) (hz2 : A2 = none → c2 = 0) :
    Calls Try.prog 3 #[.slice A l.length c, .slice A1 gl.length c1, .slice A2 ml.length c2] w fun e w' => e = .returned (.bool true) ∧ Below w.heap.size w w' := by
  have HAW := Lib.hid (fun wx => awake37_c wx)
  have HNEW := Lib.hid (fun wx => new_c wx)
  have HINC := Lib.hid (fun wx A n c => in_c wx A n c)
  have hsm := fun (wx : World) (hx : Below w.heap.size w wx) => small37_c (w := wx) (hrow.keep (G' := fun k => k < w.heap.size) (T' := fun k => k < w.heap.size) (fun k hk => ⟨hx.block k hk, hk⟩) (fun k hk => ⟨hx.block k hk, hk⟩)) (fun k hk => Nat.lt_of_lt_of_le hk hx.size) (fun k hk => Nat.lt_of_lt_of_le hk hx.size) rfl (fun m hm => ⟨(hok m hm).2.1, (hok m hm).2.2.1, (hok m hm).2.2.2.1⟩)
  obtain ⟨n, hn⟩ : ∃ n, n = l.length := ⟨_, rfl⟩
  obtain ⟨kg, hkg⟩ : ∃ n, n = gl.length := ⟨_, rfl⟩
  obtain ⟨km, hkm⟩ : ∃ n, n = ml.length := ⟨_, rfl⟩
  have hcc : n ≤ c ∧ c ≤ 9223372036854775807 := ⟨by rw [hn]; exact hrow.1, hrow.2.1⟩
  have hc1 := hcc.1
  have hc2 := hcc.2
  have HROW := Lib.hid (row_at hrow)
  have HOK := Lib.hid hok
  rw [← hn] at hsm
  rw [← hn, ← hkg, ← hkm]
  have HSM := Lib.hid hsm
  have HN := Lib.hid hn
  have HKG := Lib.hid (And.intro hkg hkm)
  have HIG := Lib.hid (And.intro hg1 (And.intro hz1 (And.intro hg2 hz2)))
  have HIL := Lib.hid (show ∀ a b : Value, (Try.prog.info? 29).map (·.size) = some [a, b].length from fun _ _ => ikInfo)
  have HIC := Lib.hid (show ∀ (x : Ct) (A : Option Addr) (c : Nat), (Try.prog.info? 42).map (·.size) = some (contA x A c).size ∧ (Try.prog.info? 42).map (·.size) = some (contA x A c).toList.length ∧ (contA zCt none 0).size = (contA x A c).size ∧ (contA x A c).all (·.oneCell') = true from fun x A c => ⟨infC, infC, rfl, cont_one _ _ _⟩)
  clear hsm hn hrow hok hcc hkg hkm hg1 hg2 hz1 hz2
  go_enter Try.func3, Try.ntmps3
  rcases smallW_cases l with hs | hs
  · rw [hs] at HSM
    clear hs
    go_wp2_with (first | (go_at_call 5; refine (HAW.out _).mono ?_; rintro e w1 ⟨rfl, hb1⟩; have HB1 := Lib.hid hb1; clear hb1) | (go_at_call 6; refine (HSM.out w1 HB1.out).mono ?_; rintro e w2 ⟨rfl, hb2⟩; have HB2 := Lib.hid hb2; clear hb2) | fail)
    first | go_ret | go_ret2 | (refine bodyPost_ret (results_tmp rfl _ _ _) rfl ?_)
    exact ⟨by kernel_rfl, HB1.out.trans (HB2.out.mono HB1.out.size)⟩
  · rw [hs] at HSM
    obtain ⟨h40, h60, -⟩ := smallW_one (l := l) (by rw [hs]; decide)
    have H40 := Lib.hid (And.intro h40 h60)
    have hn40 : n ≤ 40 := by rw [HN.out]; exact h40
    clear hs h40 h60
    by_cases hg60 : 60 < kg
    · have hgI : (60 : Int) < (kg : Int) := by omega
      go_wp2_with (first | (go_at_call 5; refine (HAW.out _).mono ?_; rintro e w1 ⟨rfl, hb1⟩; have HB1 := Lib.hid hb1; clear hb1) | (go_at_call 6; refine (HSM.out w1 HB1.out).mono ?_; rintro e w2 ⟨rfl, hb2⟩; have HB2 := Lib.hid hb2; clear hb2) | fail)
      first | go_ret | go_ret2 | (refine bodyPost_ret (results_tmp rfl _ _ _) rfl ?_)
      exact ⟨by kernel_rfl, HB1.out.trans (HB2.out.mono HB1.out.size)⟩
    have hgI : ¬ ((60 : Int) < (kg : Int)) := by omega
    by_cases hm60 : 60 < km
    · have hmI : (60 : Int) < (km : Int) := by omega
      go_wp2_with (first | (go_at_call 5; refine (HAW.out _).mono ?_; rintro e w1 ⟨rfl, hb1⟩; have HB1 := Lib.hid hb1; clear hb1) | (go_at_call 6; refine (HSM.out w1 HB1.out).mono ?_; rintro e w2 ⟨rfl, hb2⟩; have HB2 := Lib.hid hb2; clear hb2) | fail)
      first | go_ret | go_ret2 | (refine bodyPost_ret (results_tmp rfl _ _ _) rfl ?_)
      exact ⟨by kernel_rfl, HB1.out.trans (HB2.out.mono HB1.out.size)⟩
    have hmI : ¬ ((60 : Int) < (km : Int)) := by omega
    go_upto_region 6 with (first | (go_at_call 5; refine (HAW.out _).mono ?_; rintro e w1 ⟨rfl, hb1⟩; have HB1 := Lib.hid hb1; clear hb1) | (go_at_call 6; refine (HSM.out w1 HB1.out).mono ?_; rintro e w2 ⟨rfl, hb2⟩; have HB2 := Lib.hid hb2; clear hb2) | (go_at_call 7; refine (HNEW.out _).mono ?_; rintro e w3 ⟨p, rfl, hr3, hb3⟩; have H3 := Lib.hid (And.intro hr3 hb3); clear hr3 hb3) | fail)
    clear hgI hmI
    obtain ⟨z0, hz0⟩ : ∃ z, z = w2.heap.size := ⟨_, rfl⟩
    have hb02 : Below w.heap.size w w2 := HB1.out.trans (HB2.out.mono HB1.out.size)
    have HZ := Lib.hid (And.intro hz0 hb02)
    have hst : MoI w z0 p l n (.int .i64 0) w3 := ⟨0, Nat.zero_le _, rfl, Lib.hid ⟨hb02.trans (H3.out.2.mono hb02.size), by rw [hz0]; exact H3.out.2.size, by rw [List.take_zero]; exact H3.out.1.zone (fun b hb => by rw [hz0]; exact hb.1)⟩⟩
    have HST := Lib.hid hst
    clear hz0 hb02 hst
    go_wp2
    go_loopw [36] (fun iv wr => MoI w z0 p l n iv wr) (fun iv _ => n - (intOf iv).toNat)
    case atStart => exact HST.out
    case round =>
     obtain ⟨i, hin, rfl, hR⟩ := hrel
     by_cases hi : i < n
     · have hiI : (i : Int) < (n : Int) := by omega
       have hi0 : (0 : Int) ≤ i := by omega
       have hil : i < l.length := by rw [← HN.out]; exact hi
       obtain ⟨q, o, hA, A', c', Ao, co, hrg, hsl, hio⟩ := HROW.out wr hR.out.1 i hil
       subst hA
       obtain ⟨m, hm⟩ : ∃ m, m = l[i] := ⟨_, rfl⟩
       rw [← hm] at hrg hsl hio
       have hmin := HOK.out m (by rw [hm]; exact List.getElem_mem hil)
       obtain ⟨CW, hCW⟩ : ∃ C, C = wrA m A' c' Ao co := ⟨_, rfl⟩
       obtain ⟨gb, hgb⟩ : ∃ b, b = wr.heap.size := ⟨_, rfl⟩
       obtain ⟨w5, hw5⟩ : ∃ w5, w5 = wr.alloc (.cells CW 44) := ⟨_, rfl⟩
       have hb5 : Below wr.heap.size wr w5 := by rw [hw5]; exact (bel1 _ _).1
       have hk5 : w5.heap[gb]? = some (.cells CW 44) := by rw [hw5, hgb]; exact heap_alloc_new _ _
       have hic := rw_info m A' c' Ao co
       have h1w := wrA_one m A' c' Ao co
       have hzs : (wrA zWr none 0 none 0).size = (wrA m A' c' Ao co).size := rfl
       have hws : w.heap.size ≤ wr.heap.size := Below.size hR.out.1
       have hsl5 : SlAt w5 wr.heap.size A' c' m.x.t.l := (hsl.more hws).below hb5
       have hio5 : IkG w5 (fun k => k < wr.heap.size) Ao co m.o := (hio.mono (fun k hk => Nat.lt_of_lt_of_le hk hws)).below hb5
       rw [← hCW] at hrg hic h1w hzs
       have HX := Lib.hid (And.intro hrg (And.intro hic (And.intro h1w (And.intro hzs (And.intro hk5 (And.intro hb5 (And.intro hsl5 hio5)))))))
       have HMIN := Lib.hid hmin
       have HW5 := Lib.hid hw5
       have HGB := Lib.hid hgb
       have HM := Lib.hid hm
       have HCW := Lib.hid hCW
       clear hrg hic h1w hzs hk5 hb5 hsl5 hio5 hmin hw5 hgb hm hCW hsl hio hws
       have hput := put_c (hR.out.2.2.below HX.out.2.2.2.2.2.1) (by omega) (by have := playW_len (l.take i); rw [List.length_take] at this; omega) m A' c' Ao co (wrIn_of HMIN.out (H40.out.2 m (by rw [HM.out]; exact List.getElem_mem hil)) HX.out.2.2.2.2.2.2.1 HX.out.2.2.2.2.2.2.2) (HX.out.2.2.2.2.2.1.size)
       rw [← HCW.out] at hput
       have hbox : w5.rangeAt gb 0 CW.toList := row_range_ HX.out.2.2.2.2.1 _ _ (fun j v hv => by rw [Nat.zero_add, ← Array.getElem?_toList]; exact hv)
       have HBOX := Lib.hid hbox
       have HPUT := Lib.hid hput
       clear hput hbox
       go_upto_region 9 with (first | (refine wpList_mid rfl 44 _ rfl q (o + i * 32) rfl CW.toList _ HX.out.1 undRw rfl HX.out.2.1.2 ?_; simp only [Array.toArray_toList]) | (refine wpList_rwVar rfl rfl wr.heap.size rfl ?_) | (refine wpList_storeFresh (w := wr) rfl 44 _ _ rfl wr.heap.size rfl CW rfl rfl HX.out.2.1.1 HX.out.2.2.2.1 HX.out.2.2.1 ?_) | fail)
       rw [← HW5.out, ← HGB.out]
       go_wp2_with (first | (refine wpList_mid rfl 44 _ rfl gb 0 rfl CW.toList _ HBOX.out undRw rfl HX.out.2.1.2 ?_; simp only [Array.toArray_toList]) | (go_at_call 8; refine HPUT.out.mono ?_; rintro e w6 ⟨rfl, hr6, hk6⟩; have H6 := Lib.hid (And.intro hr6 hk6); clear hr6 hk6) | fail)
       go_roundw
       case measure => simp [intOf]; omega
       case rel =>
         have h5 := HX.out.2.2.2.2.2.1
         have hz := hR.out.2.1
         have h15 := HZ.out
         have hs2 := h15.2.size
         have hw5 : Below w.heap.size w w5 := hR.out.1.trans (h5.mono hR.out.1.size)
         refine ⟨i + 1, by omega, by go_num, Lib.hid ⟨?_, ?_, ?_⟩⟩
         · exact keepZ_below hw5 H6.out.2 (fun b hb => by have hb' : z0 ≤ b := hb; omega) hw5.size
         · have := H6.out.2.size; have := h5.size; omega
         · rw [more_next hil, ← HM.out]
           exact H6.out.1.zone (fun b hb => hb.elim (fun h => h) (fun h => by have := h5.size; show z0 ≤ b; omega))
     · have hie : n = i := by omega
       subst hie
       have hiI : ¬ ((n : Int) < (n : Int)) := by omega
       obtain ⟨M, hM⟩ : ∃ M, M = playW l := ⟨_, rfl⟩
       have hrg := hR.out.2.2
       rw [List.take_of_length_le (by rw [← HN.out]; exact Nat.le_refl _), ← hM] at hrg
       obtain ⟨W, hW⟩ : ∃ W, W = wr := ⟨_, rfl⟩
       rw [← hW] at hrg ⊢
       have hwW : Below w.heap.size w W := by rw [hW]; exact hR.out.1
       have hMl : M.length ≤ 40 := by rw [hM]; exact Nat.le_trans (playW_len _) H40.out.1
       have hmi : ∀ x ∈ idsW M, x.ok := fun x hx => by
         obtain ⟨m, hm, rfl⟩ := List.mem_map.1 hx
         rw [hM] at hm
         exact (HOK.out m (playW_good _ (by have := H40.out.1; omega) m hm).1).1
       have HMI := Lib.hid hmi
       obtain ⟨na, hna⟩ : ∃ n, n = kg + km := ⟨_, rfl⟩
       have hna2 : na ≤ 120 := by omega
       have hig : ∀ wx, Below W.heap.size W wx → IkG wx (fun k => k < w.heap.size) A1 c1 gl ∧ IkG wx (fun k => k < w.heap.size) A2 c2 ml := fun wx hx => by
         have h := hwW.trans (hx.mono hwW.size)
         exact ⟨HIG.out.1.below h, HIG.out.2.2.1.below h⟩
       have how : (W.alloc (.cells #[] 29)).ownsRow W.heap.size 29 2 (.slice (some ⟨W.heap.size, 0, none⟩) 0 0) 0 (ikCells []) := ⟨rfl, .inr ⟨W.heap.size, 0, #[], rfl, Nat.le_refl _, World.alloc_heap_new W _, Nat.le_refl _, Nat.zero_le _, rfl, rfl⟩⟩
       have HOW := Lib.hid how
       have HIA := Lib.hid hig
       have HWA := Lib.hid ((bel1 W (.cells #[] 29)).1)
       have HRG0 := Lib.hid hrg
       have HWW := Lib.hid hwW
       have HMM := Lib.hid (And.intro hM hMl)
       have HNA0 := Lib.hid hna
       clear hR HST HNEW HSM HAW H3 hrg hW hwW hMl hmi hM hig how hna
       go_upto_region 12 with (first | (at_builtin; refine wpList_append_ik rfl _ _ rfl W.heap.size (.slice (some ⟨W.heap.size, 0, none⟩) 0 0) 0 kg kg [] gl rfl HOW.out A1 c1 _ rfl (HIA.out _ HWA.out).1 HKG.out.1 HIG.out.2.1 (by omega) (by omega) HWA.out.size ?_; intro A10 c10 w10 ho10 hb10; have HO10 := Lib.hid (And.intro ho10 (HWA.out.trans hb10)); clear ho10 hb10) | (at_builtin; refine wpList_append_ik rfl _ _ rfl W.heap.size (.slice A10 kg c10) kg km na ([] ++ gl) ml rfl HO10.out.1 A2 c2 _ rfl (HIA.out _ HO10.out.2).2 HKG.out.2 HIG.out.2.2.2 HNA0.out (by omega) HO10.out.2.size ?_; intro A11 c11 w11 ho11 hb11; have HO11 := Lib.hid (And.intro ho11 (HO10.out.2.trans hb11)); clear ho11 hb11) | fail)
       obtain ⟨al, hal⟩ : ∃ al, al = gl ++ ml := ⟨_, rfl⟩
       have hb11 := HO11.out.2
       have hikA : IkG w11 (fun k => k < w11.heap.size) A11 c11 al := by
         have h := HO11.out.1
         rw [List.nil_append, ← hal] at h
         exact (own_ikG h (by rw [hal, List.length_append, HNA0.out, HKG.out.1, HKG.out.2])).mono (fun k hk => hk.2)
       have hg11 : IkG w11 (fun k => k < w11.heap.size) A1 c1 gl := (HIA.out w11 hb11).1.mono (fun k hk => Nat.lt_of_lt_of_le hk (Nat.le_trans HWW.out.size hb11.size))
       have hrg := HRG0.out.below hb11
       have hw11 : Below w.heap.size w w11 := HWW.out.trans (hb11.mono HWW.out.size)
       have hcalls : ∀ wx, Below w11.heap.size w11 wx → (∀ gv g, GoneV wx gv g → Calls Try.prog 9 #[.pointer (some ⟨p, 0, none⟩), gv] wx (IdsP wx (idsW (standW M g)))) ∧ Calls Try.prog 13 #[.pointer (some ⟨p, 0, none⟩)] wx (IdsP wx (idsW M)) ∧ Calls Try.prog 11 #[.pointer (some ⟨p, 0, none⟩), .func (.func 12) #[] #[]] wx (Get0 wx) := fun wx hx => by
         have hM40 := HMM.out.2
         have h1 := (hrg.below hx).z
         exact ⟨fun gv g hg => shown_c h1 (by omega) gv g hg, ids_c h1 (by omega), (get_c h1 (by omega) _ _ (all_fun wx)).mono fun e w' he => he.zero (stand_all (fun _ _ => rfl))⟩
       have HC := Lib.hid hcalls
       have HAL := Lib.hid hikA
       have HGL := Lib.hid hg11
       have HALE := Lib.hid hal
       have HNA := Lib.hid (show na = al.length by rw [hal, List.length_append, HNA0.out, HKG.out.1, HKG.out.2])
       have HW11 := Lib.hid hw11
       obtain ⟨w12, hw12⟩ : ∃ x, x = w11.alloc (.map #[] 0) := ⟨_, rfl⟩
       obtain ⟨hm, hhm⟩ : ∃ g, g = w11.heap.size := ⟨_, rfl⟩
       have h12 : Below w11.heap.size w11 w12 := by rw [hw12]; exact (bel1 _ _).1
       have hs12 : w12.heap.size = hm + 1 := by rw [hw12, hhm, World.size_alloc]
       have hstl : StillM w12 hm 0 [] := by rw [hw12, hhm]; exact StillM.start w11
       have H12 := Lib.hid (And.intro h12 (And.intro hs12 (And.intro hstl hhm)))
       have HW12 := Lib.hid hw12
       clear hikA hg11 hal hb11 hrg hw11 hcalls HRG0 HOW HIA HWA HO10 HO11 hw12 h12 hs12 hstl
       have hmk := mk_mapH
       go_upto_region 13 with (fail)
       clear hmk
       rw [← HW12.out, ← hhm]
       have HHM := Lib.hid hhm
       clear hhm
       obtain ⟨S1, hS1⟩ : ∃ S, S = idsW (standW M (fun x => decide (x ∈ al))) := ⟨_, rfl⟩
       obtain ⟨n1, hn1⟩ : ∃ n, n = S1.length := ⟨_, rfl⟩
       have HS1E := Lib.hid hS1
       have HN1 := Lib.hid hn1
       have hn140 : n1 ≤ 100 := by
         rw [hn1, hS1]
         unfold idsW standW
         rw [List.length_map]
         exact Nat.le_trans (List.length_filter_le _ _) (by have := HMM.out.2; omega)
       clear hS1 hn1
       go_upto_region 14 with (first | (go_at_call 10; refine (HINC.out _ _ _ _).mono ?_; rintro e w13 ⟨rfl, hin⟩; have HIN13 := Lib.hid hin; clear hin) | (go_at_call 9; refine ((HC.out w13 (in_at HAL.out HNA.out H12.out.1 HIN13.out).2).1 _ _ (in_at HAL.out HNA.out H12.out.1 HIN13.out).1).mono ?_; rintro e w14 ⟨A14, c14, rfl, hbs, hos⟩; have HS14 := Lib.hid (And.intro hbs hos); clear hbs hos) | fail)
       rw [← HS1E.out, ← HN1.out]
       have h13 : Below w12.heap.size w12 w13 := by rw [HIN13.out]; exact (bel1 _ _).1
       have h1214 : Below w12.heap.size w12 w14 := h13.trans (HS14.out.1.mono h13.size)
       have hst2 : MoJ w11 hm w13.heap.size A14 c14 S1 n1 (.int .i64 0) w14 := by
         refine ⟨0, Nat.zero_le _, rfl, Lib.hid ⟨H12.out.1.trans (h1214.mono H12.out.1.size), ?_, ?_⟩⟩
         · rw [List.take_zero]; exact H12.out.2.2.1.below h1214
         · have h := own_ikG HS14.out.2 rfl
           rw [← HS1E.out] at h
           exact h
       have hmz : hm < w13.heap.size := by have := h13.size; have := H12.out.2.1; omega
       have HST2 := Lib.hid hst2
       clear h13 h1214 hst2
       go_loopw [55] (fun iv wr => MoJ w11 hm w13.heap.size A14 c14 S1 n1 iv wr) (fun iv _ => n1 - (intOf iv).toNat)
       case atStart => exact HST2.out
       case round =>
        obtain ⟨i, hin, rfl, hR2⟩ := hrel
        by_cases hi : i < n1
        · have hiI : (i : Int) < (n1 : Int) := by omega
          have hi0 : (0 : Int) ≤ i := by omega
          have htl : i < S1.length := by rw [← HN1.out]; exact hi
          obtain ⟨q, o, hA, -, hrg⟩ := (hR2.out.2.2).at_ i htl
          subst hA
          obtain ⟨x, hx⟩ : ∃ x, x = S1[i] := ⟨_, rfl⟩
          rw [← hx] at hrg
          have hxm : x ∈ S1 := by rw [hx]; exact List.getElem_mem htl
          have hxok : x.ok := HMI.out x (shown_in (by rw [HS1E.out] at hxm; exact hxm))
          obtain ⟨w4, hw4⟩ : ∃ w4, w4 = wr.alloc (.cells #[.int .i64 x.a, .int .i64 x.n] 29) := ⟨_, rfl⟩
          obtain ⟨gx, hgx⟩ : ∃ g, g = wr.heap.size := ⟨_, rfl⟩
          have hb4 : Below wr.heap.size wr w4 := by rw [hw4]; exact (bel1 _ _).1
          have hk4 : w4.heap[gx]? = some (.cells #[.int .i64 x.a, .int .i64 x.n] 29) := by rw [hw4, hgx]; exact heap_alloc_new _ _
          have hxr : ∀ wz, Below w4.heap.size w4 wz → wz.rangeAt gx 0 [.int .i64 x.a, .int .i64 x.n] := fun wz hz => ik_range ((hz.block gx (Array.getElem?_eq_some_iff.1 hk4).1).trans hk4)
          have hxo : x ∉ al := more_out (by rw [HS1E.out] at hxm; exact hxm)
          have h4 : Below w11.heap.size w11 w4 := hR2.out.1.trans (hb4.mono hR2.out.1.size)
          have hkey := ik_key x hxok
          have H4 := Lib.hid h4
          have HB4 := Lib.hid hb4
          have HXO := Lib.hid hxo
          have HXR := Lib.hid hxr
          have HX := Lib.hid (And.intro hx hxok)
          have HRG := Lib.hid hrg
          have HKEY := Lib.hid hkey
          have HW4 := Lib.hid (And.intro hw4 hgx)
          have HTL := Lib.hid htl
          clear hxo h4 hkey hb4 hxr hx hxok hrg hw4 hgx hk4 hxm
          obtain ⟨xa, xn⟩ := x
          dsimp only [Ik.val, Ik.cs] at HRG HW4 HXR HKEY
          go_upto_region 16 with (first | (refine wpList_mid rfl 29 _ rfl q (o + i * 2) rfl [.int .i64 xa, .int .i64 xn] _ HRG.out ikUnd rfl (HIL.out _ _) ?_) | fail)
          rw [← HW4.out.1, ← HW4.out.2]
          refine wp_region_held_drew (S := fun wx => Below w4.heap.size w4 wx) (by kernel_rfl) (Below.refl _ _).drew (fun hHeld => ?_)
          obtain ⟨wa, hwa⟩ : ∃ x, x = w4.drew := ⟨_, rfl⟩
          rw [← hwa] at hHeld ⊢
          clear hwa
          refine wpAnyH_take (i := 0) (v := .slice A11 na c11) rfl (by kernel_rfl) (by kernel_rfl) (by kernel_rfl) (fun _ _ _ h => h) (Or.inl ⟨by kernel_rfl, fun _ hS => by kernel_rfl⟩) hHeld ?_
          (try simp only [Act.put, List.getElem_toArray, List.getElem_cons_succ, List.getElem_cons_zero, List.setIfInBounds_toArray, List.set_cons_zero, List.set_cons_succ])
          refine wpAnyH_take (i := 2) (v := .agg #[.int .i64 xa, .int .i64 xn]) rfl (by kernel_rfl) (by kernel_rfl) (by kernel_rfl) (fun _ _ _ h => h) (yieldsIf_load_mid (by kernel_rfl) 29 _ rfl gx 0 rfl [.int .i64 xa, .int .i64 xn] _ (fun _ hS => HXR.out _ hS) ikUnd rfl (HIL.out _ _)) hHeld ?_
          (try simp only [Act.put, List.getElem_toArray, List.getElem_cons_succ, List.getElem_cons_zero, List.setIfInBounds_toArray, List.set_cons_zero, List.set_cons_succ])
          refine wpAnyH_ready (rs := [1]) (by kernel_rfl) (by simp) ?_
          refine AllReadyH.cons rfl (fun K hK => ?_) AllReadyH.nil
          go_simp
          refine (HINC.out _ _ _ _).mono ?_
          rintro e wb ⟨rfl, hin⟩
          have HINB := Lib.hid hin
          clear hin
          try go_simp
          have hbb : Below w4.heap.size w4 wb := hHeld.trans (by rw [HINB.out]; exact ((bel1 _ _).1).mono hHeld.size)
          have HCX := Lib.hid (in_at2 HAL.out HNA.out (H4.out.trans (hHeld.mono H4.out.size)) HINB.out ⟨xa, xn⟩ (r := false) (decide_eq_false HXO.out))
          refine hK.out _ _ hbb (fun hHeld1 => ?_)
          clear hK K hHeld hbb
          have hHeld := hHeld1
          clear hHeld1
          (try simp only [Act.put, List.getElem_toArray, List.getElem_cons_succ, List.getElem_cons_zero, List.setIfInBounds_toArray, List.set_cons_zero, List.set_cons_succ])
          refine wpAnyH_ready (rs := [3]) (by kernel_rfl) (by simp) ?_
          refine AllReadyH.cons rfl (fun K hK => ?_) AllReadyH.nil
          go_simp
          refine HCX.out.mono ?_
          rintro e wc ⟨rfl, hbc⟩
          try go_simp
          have hbc2 : Below w4.heap.size w4 wc := hHeld.trans (hbc.mono hHeld.size)
          refine hK.out _ _ hbc2 (fun hHeld1 => ?_)
          clear hK K hHeld hbc2
          have hHeld := hHeld1
          clear hHeld1
          (try simp only [Act.put, List.getElem_toArray, List.getElem_cons_succ, List.getElem_cons_zero, List.setIfInBounds_toArray, List.set_cons_zero, List.set_cons_succ])
          clear hbc
          have HE := Lib.hid hHeld
          refine wpAnyH_done (by kernel_rfl) ?_ _
          clear hHeld
          have hrc : Below wr.heap.size wr wc := HB4.out.trans (HE.out.mono HB4.out.size)
          have hstc := hR2.out.2.1.below hrc
          obtain ⟨D, hD⟩ := hstc
          have HDD := Lib.hid hD
          have hxc := HXR.out wc HE.out
          clear hD
          go_upto_region 19 with (first | (at_mapUpdate; refine wpList_mapUpdate_own _ rfl _ _ _ 48 rfl 29 4 ik_law undMb heldB hm i D rfl HDD.out.1 (by unfold maxLen; omega) (.agg #[.int .i64 xa, .int .i64 xn]) (.bool true) _ rfl rfl HKEY.out (.held (.bool true)) [] rfl ?_; intro w5 hown5 hg5; have HO5 := Lib.hid (And.intro hown5 hg5); clear hown5 hg5) | (refine wpList_mid rfl 29 _ rfl gx 0 rfl [.int .i64 xa, .int .i64 xn] _ hxc ikUnd rfl (HIL.out _ _) ?_) | fail)
          clear hxc
          go_wp2
          go_roundw
          case measure => simp [intOf]; omega
          case rel =>
            have hl0 := hR2.out.2.1.lt
            have hl1 := hR2.out.1.size
            have hhm := HHM.out
            have h11c : Below w11.heap.size w11 wc := hR2.out.1.trans (hrc.mono hl1)
            refine ⟨i + 1, by omega, by go_num, Lib.hid ⟨h11c.grown HO5.out.2 (by have := hrc.size; omega) (fun k e => by have := Option.some.inj e; omega), ?_, ?_⟩⟩
            · have h5 := still_put HX.out.2 HDD.out.2.1 HDD.out.2.2 HO5.out.1
              rw [List.take_succ_eq_append_getElem HTL.out, ← HX.out.1]
              exact h5
            · exact hR2.out.2.2.keep (fun k hk => ⟨(HO5.out.2.block k (Nat.lt_of_lt_of_le hk.2 hrc.size) (fun e => by have := Option.some.inj e; omega)).trans (hrc.block k hk.2), hk.1, Nat.lt_of_lt_of_le hk.2 (Nat.le_trans hrc.size HO5.out.2.size)⟩)
        · have hie : n1 = i := by omega
          subst hie
          have hiI : ¬ ((n1 : Int) < (n1 : Int)) := by omega
          obtain ⟨w15, hw15⟩ : ∃ x, x = wr := ⟨_, rfl⟩
          have hst3 := hR2.out.2.1
          have h15 := hR2.out.1
          rw [List.take_of_length_le (by rw [← HN1.out]; exact Nat.le_refl _)] at hst3
          rw [← hw15] at hst3 h15 ⊢
          have H15 := Lib.hid (And.intro h15 hst3)
          obtain ⟨S2, hS2⟩ : ∃ S, S = idsW (standW M (fun x => decide (x ∈ gl))) := ⟨_, rfl⟩
          obtain ⟨n2, hn2⟩ : ∃ n, n = S2.length := ⟨_, rfl⟩
          have HS2E := Lib.hid hS2
          have HN2 := Lib.hid hn2
          have hn240 : n2 ≤ 100 := by
            rw [hn2, hS2]
            unfold idsW standW
            rw [List.length_map]
            exact Nat.le_trans (List.length_filter_le _ _) (by have := HMM.out.2; omega)
          clear hR2 HST2 hst3 h15 hw15 hS2 hn2
          go_upto_region 21 with (first | (go_at_call 10; refine (HINC.out _ _ _ _).mono ?_; rintro e w20 ⟨rfl, hin⟩; have HIN20 := Lib.hid hin; clear hin) | (go_at_call 9; refine ((HC.out w20 (in_at HGL.out HKG.out.1 H15.out.1 HIN20.out).2).1 _ _ (in_at HGL.out HKG.out.1 H15.out.1 HIN20.out).1).mono ?_; rintro e w21 ⟨A21, c21, rfl, hbs, hos⟩; have HS21 := Lib.hid (And.intro hbs hos); clear hbs hos) | fail)
          rw [← HS2E.out, ← HN2.out]
          have h20 : Below w15.heap.size w15 w20 := by rw [HIN20.out]; exact (bel1 _ _).1
          have h21 : Below w15.heap.size w15 w21 := h20.trans (HS21.out.1.mono h20.size)
          have hst21 := H15.out.2.below h21
          have hi21 : IkG w21 (fun k => k < w21.heap.size) A21 c21 S2 := by
            have h := own_ikG HS21.out.2 rfl
            rw [← HS2E.out] at h
            exact h.mono (fun k hk => hk.2)
          have H21 := Lib.hid (And.intro (H15.out.1.trans (h21.mono H15.out.1.size)) (And.intro hst21 hi21))
          have hst4 : MoK w21 n2 (.int .i64 0) w21 := ⟨0, Nat.zero_le _, rfl, Lib.hid (Below.refl _ _)⟩
          have HST4 := Lib.hid hst4
          clear h20 h21 hst21 hi21 hst4
          go_loopw [71] (fun iv wr => MoK w21 n2 iv wr) (fun iv _ => n2 - (intOf iv).toNat)
          case atStart => exact HST4.out
          case round =>
           obtain ⟨i, hin, rfl, hR3⟩ := hrel
           by_cases hi : i < n2
           · have hiI : (i : Int) < (n2 : Int) := by omega
             have hi0 : (0 : Int) ≤ i := by omega
             have htl : i < S2.length := by rw [← HN2.out]; exact hi
             obtain ⟨q, o, hA, -, hrg⟩ := (H21.out.2.2.below hR3.out).at_ i htl
             subst hA
             obtain ⟨x, hx⟩ : ∃ x, x = S2[i] := ⟨_, rfl⟩
             rw [← hx] at hrg
             have hxm : x ∈ S2 := by rw [hx]; exact List.getElem_mem htl
             have hxok : x.ok := HMI.out x (shown_in (by rw [HS2E.out] at hxm; exact hxm))
             obtain ⟨w4, hw4⟩ : ∃ w4, w4 = wr.alloc (.cells #[.int .i64 x.a, .int .i64 x.n] 29) := ⟨_, rfl⟩
             obtain ⟨gx, hgx⟩ : ∃ g, g = wr.heap.size := ⟨_, rfl⟩
             have hb4 : Below wr.heap.size wr w4 := by rw [hw4]; exact (bel1 _ _).1
             have hk4 : w4.heap[gx]? = some (.cells #[.int .i64 x.a, .int .i64 x.n] 29) := by rw [hw4, hgx]; exact heap_alloc_new _ _
             have hxr : ∀ wz, Below w4.heap.size w4 wz → wz.rangeAt gx 0 [.int .i64 x.a, .int .i64 x.n] := fun wz hz => ik_range ((hz.block gx (Array.getElem?_eq_some_iff.1 hk4).1).trans hk4)
             have h4 : Below w11.heap.size w11 w4 := H21.out.1.trans ((hR3.out.trans (hb4.mono hR3.out.size)).mono H21.out.1.size)
             have hst5 := H21.out.2.1.below (hR3.out.trans (hb4.mono hR3.out.size))
             have hlk : ∀ wz, Below w4.heap.size w4 wz → (Instr.lookup 48 (.map (some hm)) x.val false).run Try.prog wz = .ok (.bool (decide (x ∈ S1))) wz := fun wz hz => (hst5.below hz).look x hxok
             have hxo : x ∉ S1 → x ∈ al := fun h => by
               rw [HS2E.out] at hxm
               rw [HS1E.out, HALE.out] at h
               rw [HALE.out]
               exact more_still hxm h
             have H4 := Lib.hid h4
             have HB4 := Lib.hid hb4
             have HXR := Lib.hid hxr
             have HRG := Lib.hid hrg
             have HLK := Lib.hid hlk
             have HXO0 := Lib.hid hxo
             have HW4 := Lib.hid (And.intro hw4 hgx)
             clear hxo h4 hb4 hxr hx hxok hrg hw4 hgx hk4 hxm htl hst5 hlk
             obtain ⟨xa, xn⟩ := x
             dsimp only [Ik.val, Ik.cs] at HRG HW4 HXR HLK
             go_upto_region 23 with (first | (refine wpList_mid rfl 29 _ rfl q (o + i * 2) rfl [.int .i64 xa, .int .i64 xn] _ HRG.out ikUnd rfl (HIL.out _ _) ?_) | fail)
             rw [← HW4.out.1, ← HW4.out.2]
             by_cases hx1 : (⟨xa, xn⟩ : Ik) ∈ S1
             · rw [decide_eq_true hx1] at HLK
               clear hx1
               refine wp_region_held_drew (S := fun wx => Below w4.heap.size w4 wx) (by kernel_rfl) (Below.refl _ _).drew (fun hHeld => ?_)
               obtain ⟨wa, hwa⟩ : ∃ x, x = w4.drew := ⟨_, rfl⟩
               rw [← hwa] at hHeld ⊢
               clear hwa
               refine wpAnyH_take (i := 0) (v := .map (some hm)) rfl (by kernel_rfl) (by kernel_rfl) (by kernel_rfl) (fun _ _ _ h => h) (Or.inl ⟨by kernel_rfl, fun _ hS => by kernel_rfl⟩) hHeld ?_
               (try simp only [Act.put, List.getElem_toArray, List.getElem_cons_succ, List.getElem_cons_zero, List.setIfInBounds_toArray, List.set_cons_zero, List.set_cons_succ])
               refine wpAnyH_take (i := 1) (v := .agg #[.int .i64 xa, .int .i64 xn]) rfl (by kernel_rfl) (by kernel_rfl) (by kernel_rfl) (fun _ _ _ h => h) (yieldsIf_load_mid (by kernel_rfl) 29 _ rfl gx 0 rfl [.int .i64 xa, .int .i64 xn] _ (fun _ hS => HXR.out _ hS) ikUnd rfl (HIL.out _ _)) hHeld ?_
               (try simp only [Act.put, List.getElem_toArray, List.getElem_cons_succ, List.getElem_cons_zero, List.setIfInBounds_toArray, List.set_cons_zero, List.set_cons_succ])
               refine wpAnyH_take (i := 2) (v := .bool true) rfl (by kernel_rfl) (by kernel_rfl) (by kernel_rfl) (fun _ _ _ h => h) (Or.inl ⟨by kernel_rfl, fun _ hS => lk_runB (mv := .map (some hm)) (kv := .agg #[.int .i64 xa, .int .i64 xn]) _ _ rfl rfl rfl (HLK.out _ hS)⟩) hHeld ?_
               (try simp only [Act.put, List.getElem_toArray, List.getElem_cons_succ, List.getElem_cons_zero, List.setIfInBounds_toArray, List.set_cons_zero, List.set_cons_succ])
               refine wpAnyH_take (i := 3) (v := .bool false) rfl (by kernel_rfl) (by kernel_rfl) (by kernel_rfl) (fun _ _ _ h => h) (Or.inl ⟨by kernel_rfl, fun _ hS => by kernel_rfl⟩) hHeld ?_
               (try simp only [Act.put, List.getElem_toArray, List.getElem_cons_succ, List.getElem_cons_zero, List.setIfInBounds_toArray, List.set_cons_zero, List.set_cons_succ])
               refine wpAnyH_take (i := 4) (v := .bool false) rfl (by kernel_rfl) (by kernel_rfl) (by kernel_rfl) (fun _ _ _ h => h) (Or.inl ⟨by kernel_rfl, fun _ hS => by kernel_rfl⟩) hHeld ?_
               (try simp only [Act.put, List.getElem_toArray, List.getElem_cons_succ, List.getElem_cons_zero, List.setIfInBounds_toArray, List.set_cons_zero, List.set_cons_succ])
               refine wpAnyH_take (i := 5) (v := undef) rfl (by kernel_rfl) (by kernel_rfl) (by kernel_rfl) (fun _ _ _ h => h) (Or.inr ⟨by kernel_rfl, rfl⟩) hHeld ?_
               (try simp only [Act.put, List.getElem_toArray, List.getElem_cons_succ, List.getElem_cons_zero, List.setIfInBounds_toArray, List.set_cons_zero, List.set_cons_succ])
               refine wpAnyH_take (i := 6) (v := undef) rfl (by kernel_rfl) (by kernel_rfl) (by kernel_rfl) (fun _ _ _ h => h) (Or.inr ⟨by kernel_rfl, rfl⟩) hHeld ?_
               (try simp only [Act.put, List.getElem_toArray, List.getElem_cons_succ, List.getElem_cons_zero, List.setIfInBounds_toArray, List.set_cons_zero, List.set_cons_succ])
               refine wpAnyH_take (i := 7) (v := undef) rfl (by kernel_rfl) (by kernel_rfl) (by kernel_rfl) (fun _ _ _ h => h) (Or.inr ⟨by kernel_rfl, rfl⟩) hHeld ?_
               (try simp only [Act.put, List.getElem_toArray, List.getElem_cons_succ, List.getElem_cons_zero, List.setIfInBounds_toArray, List.set_cons_zero, List.set_cons_succ])
               refine wpAnyH_take (i := 8) (v := undef) rfl (by kernel_rfl) (by kernel_rfl) (by kernel_rfl) (fun _ _ _ h => h) (Or.inr ⟨by kernel_rfl, rfl⟩) hHeld ?_
               (try simp only [Act.put, List.getElem_toArray, List.getElem_cons_succ, List.getElem_cons_zero, List.setIfInBounds_toArray, List.set_cons_zero, List.set_cons_succ])
               refine wpAnyH_take (i := 9) (v := undef) rfl (by kernel_rfl) (by kernel_rfl) (by kernel_rfl) (fun _ _ _ h => h) (Or.inr ⟨by kernel_rfl, rfl⟩) hHeld ?_
               (try simp only [Act.put, List.getElem_toArray, List.getElem_cons_succ, List.getElem_cons_zero, List.setIfInBounds_toArray, List.set_cons_zero, List.set_cons_succ])
               refine wpAnyH_take (i := 10) (v := .bool false) rfl (by kernel_rfl) (by kernel_rfl) (by kernel_rfl) (fun _ _ _ h => h) (Or.inl ⟨by kernel_rfl, fun _ hS => by kernel_rfl⟩) hHeld ?_
               (try simp only [Act.put, List.getElem_toArray, List.getElem_cons_succ, List.getElem_cons_zero, List.setIfInBounds_toArray, List.set_cons_zero, List.set_cons_succ])
               obtain ⟨wc, hwc⟩ : ∃ x, x = wa := ⟨_, rfl⟩
               rw [← hwc] at hHeld ⊢
               clear hwc
               have HE := Lib.hid hHeld
               refine wpAnyH_done (by kernel_rfl) ?_ _
               clear hHeld
               go_wp2
               go_roundw
               case measure => simp [intOf]; omega
               case rel =>
                 exact ⟨i + 1, by omega, by go_num, Lib.hid (hR3.out.trans ((HB4.out.trans (HE.out.mono HB4.out.size)).mono hR3.out.size))⟩
             · rw [decide_eq_false hx1] at HLK
               have HXO := Lib.hid (HXO0.out hx1)
               clear hx1
               refine wp_region_held_drew (S := fun wx => Below w4.heap.size w4 wx) (by kernel_rfl) (Below.refl _ _).drew (fun hHeld => ?_)
               obtain ⟨wa, hwa⟩ : ∃ x, x = w4.drew := ⟨_, rfl⟩
               rw [← hwa] at hHeld ⊢
               clear hwa
               refine wpAnyH_take (i := 0) (v := .map (some hm)) rfl (by kernel_rfl) (by kernel_rfl) (by kernel_rfl) (fun _ _ _ h => h) (Or.inl ⟨by kernel_rfl, fun _ hS => by kernel_rfl⟩) hHeld ?_
               (try simp only [Act.put, List.getElem_toArray, List.getElem_cons_succ, List.getElem_cons_zero, List.setIfInBounds_toArray, List.set_cons_zero, List.set_cons_succ])
               refine wpAnyH_take (i := 1) (v := .agg #[.int .i64 xa, .int .i64 xn]) rfl (by kernel_rfl) (by kernel_rfl) (by kernel_rfl) (fun _ _ _ h => h) (yieldsIf_load_mid (by kernel_rfl) 29 _ rfl gx 0 rfl [.int .i64 xa, .int .i64 xn] _ (fun _ hS => HXR.out _ hS) ikUnd rfl (HIL.out _ _)) hHeld ?_
               (try simp only [Act.put, List.getElem_toArray, List.getElem_cons_succ, List.getElem_cons_zero, List.setIfInBounds_toArray, List.set_cons_zero, List.set_cons_succ])
               refine wpAnyH_take (i := 2) (v := .bool false) rfl (by kernel_rfl) (by kernel_rfl) (by kernel_rfl) (fun _ _ _ h => h) (Or.inl ⟨by kernel_rfl, fun _ hS => lk_runB (mv := .map (some hm)) (kv := .agg #[.int .i64 xa, .int .i64 xn]) _ _ rfl rfl rfl (HLK.out _ hS)⟩) hHeld ?_
               (try simp only [Act.put, List.getElem_toArray, List.getElem_cons_succ, List.getElem_cons_zero, List.setIfInBounds_toArray, List.set_cons_zero, List.set_cons_succ])
               refine wpAnyH_take (i := 3) (v := .bool true) rfl (by kernel_rfl) (by kernel_rfl) (by kernel_rfl) (fun _ _ _ h => h) (Or.inl ⟨by kernel_rfl, fun _ hS => by kernel_rfl⟩) hHeld ?_
               (try simp only [Act.put, List.getElem_toArray, List.getElem_cons_succ, List.getElem_cons_zero, List.setIfInBounds_toArray, List.set_cons_zero, List.set_cons_succ])
               refine wpAnyH_take (i := 4) (v := .bool true) rfl (by kernel_rfl) (by kernel_rfl) (by kernel_rfl) (fun _ _ _ h => h) (Or.inl ⟨by kernel_rfl, fun _ hS => by kernel_rfl⟩) hHeld ?_
               (try simp only [Act.put, List.getElem_toArray, List.getElem_cons_succ, List.getElem_cons_zero, List.setIfInBounds_toArray, List.set_cons_zero, List.set_cons_succ])
               refine wpAnyH_take (i := 5) (v := .slice A11 na c11) rfl (by kernel_rfl) (by kernel_rfl) (by kernel_rfl) (fun _ _ _ h => h) (Or.inl ⟨by kernel_rfl, fun _ hS => by kernel_rfl⟩) hHeld ?_
               (try simp only [Act.put, List.getElem_toArray, List.getElem_cons_succ, List.getElem_cons_zero, List.setIfInBounds_toArray, List.set_cons_zero, List.set_cons_succ])
               refine wpAnyH_take (i := 7) (v := .agg #[.int .i64 xa, .int .i64 xn]) rfl (by kernel_rfl) (by kernel_rfl) (by kernel_rfl) (fun _ _ _ h => h) (yieldsIf_load_mid (by kernel_rfl) 29 _ rfl gx 0 rfl [.int .i64 xa, .int .i64 xn] _ (fun _ hS => HXR.out _ hS) ikUnd rfl (HIL.out _ _)) hHeld ?_
               (try simp only [Act.put, List.getElem_toArray, List.getElem_cons_succ, List.getElem_cons_zero, List.setIfInBounds_toArray, List.set_cons_zero, List.set_cons_succ])
               refine wpAnyH_ready (rs := [6]) (by kernel_rfl) (by simp) ?_
               refine AllReadyH.cons rfl (fun K hK => ?_) AllReadyH.nil
               go_simp
               refine (HINC.out _ _ _ _).mono ?_
               rintro e wb ⟨rfl, hin⟩
               have HINB := Lib.hid hin
               clear hin
               try go_simp
               have hbb : Below w4.heap.size w4 wb := hHeld.trans (by rw [HINB.out]; exact ((bel1 _ _).1).mono hHeld.size)
               have HCX := Lib.hid (in_at2 HAL.out HNA.out (H4.out.trans (hHeld.mono H4.out.size)) HINB.out ⟨xa, xn⟩ (r := true) (decide_eq_true HXO.out))
               refine hK.out _ _ hbb (fun hHeld1 => ?_)
               clear hK K hHeld hbb
               have hHeld := hHeld1
               clear hHeld1
               (try simp only [Act.put, List.getElem_toArray, List.getElem_cons_succ, List.getElem_cons_zero, List.setIfInBounds_toArray, List.set_cons_zero, List.set_cons_succ])
               refine wpAnyH_ready (rs := [8]) (by kernel_rfl) (by simp) ?_
               refine AllReadyH.cons rfl (fun K hK => ?_) AllReadyH.nil
               go_simp
               refine HCX.out.mono ?_
               rintro e wc ⟨rfl, hbc⟩
               try go_simp
               have hbc2 : Below w4.heap.size w4 wc := hHeld.trans (hbc.mono hHeld.size)
               refine hK.out _ _ hbc2 (fun hHeld1 => ?_)
               clear hK K hHeld hbc2
               have hHeld := hHeld1
               clear hHeld1
               (try simp only [Act.put, List.getElem_toArray, List.getElem_cons_succ, List.getElem_cons_zero, List.setIfInBounds_toArray, List.set_cons_zero, List.set_cons_succ])
               clear hbc
               refine wpAnyH_take (i := 9) (v := .bool false) rfl (by kernel_rfl) (by kernel_rfl) (by kernel_rfl) (fun _ _ _ h => h) (Or.inl ⟨by kernel_rfl, fun _ hS => by kernel_rfl⟩) hHeld ?_
               (try simp only [Act.put, List.getElem_toArray, List.getElem_cons_succ, List.getElem_cons_zero, List.setIfInBounds_toArray, List.set_cons_zero, List.set_cons_succ])
               refine wpAnyH_take (i := 10) (v := .bool false) rfl (by kernel_rfl) (by kernel_rfl) (by kernel_rfl) (fun _ _ _ h => h) (Or.inl ⟨by kernel_rfl, fun _ hS => by kernel_rfl⟩) hHeld ?_
               (try simp only [Act.put, List.getElem_toArray, List.getElem_cons_succ, List.getElem_cons_zero, List.setIfInBounds_toArray, List.set_cons_zero, List.set_cons_succ])
               have HE := Lib.hid hHeld
               refine wpAnyH_done (by kernel_rfl) ?_ _
               clear hHeld
               go_wp2
               go_roundw
               case measure => simp [intOf]; omega
               case rel =>
                 exact ⟨i + 1, by omega, by go_num, Lib.hid (hR3.out.trans ((HB4.out.trans (HE.out.mono HB4.out.size)).mono hR3.out.size))⟩
           · have hie : n2 = i := by omega
             subst hie
             have hiI : ¬ ((n2 : Int) < (n2 : Int)) := by omega
             obtain ⟨w25, hw25⟩ : ∃ x, x = wr := ⟨_, rfl⟩
             have h25 : Below w11.heap.size w11 w25 := by rw [hw25]; exact H21.out.1.trans (hR3.out.mono H21.out.1.size)
             rw [← hw25]
             have H25 := Lib.hid h25
             clear hR3 HST4 h25 hw25
             go_upto_region 27 with (first | (go_at_call 11; refine (HC.out w25 H25.out).2.2.mono ?_; rintro e w26 ⟨A26, c26, Ao26, co26, rfl, hb26⟩; have H26 := Lib.hid (H25.out.trans (hb26.mono H25.out.size)); clear hb26; obtain ⟨CA, hCA⟩ : ∃ C, C = contA zCt A26 c26 := ⟨_, rfl⟩; have hia := HIC.out zCt A26 c26; rw [← hCA] at hia ⊢; have HCA := Lib.hid (And.intro hCA hia); clear hCA hia) | (refine wpList_contVar rfl rfl w26.heap.size rfl ?_) | (refine wpList_storeFresh (w := w26) rfl 42 _ _ rfl w26.heap.size rfl CA rfl rfl HCA.out.2.1 HCA.out.2.2.2.1 HCA.out.2.2.2.2 ?_) | fail)
             obtain ⟨w27, hw27⟩ : ∃ x, x = w26.alloc (.cells CA 42) := ⟨_, rfl⟩
             obtain ⟨g8, hg8⟩ : ∃ g, g = w26.heap.size := ⟨_, rfl⟩
             rw [← hw27, ← hg8]
             have hb27 : Below w26.heap.size w26 w27 := by rw [hw27]; exact (bel1 _ _).1
             have hk27 : w27.heap[g8]? = some (.cells CA 42) := by rw [hw27, hg8]; exact heap_alloc_new _ _
             have h27 : Below w11.heap.size w11 w27 := H26.out.trans (hb27.mono H26.out.size)
             have hc0 : w27.cell? ⟨g8, 0, none⟩ = some (.int .i64 0) := by
               rw [cell_of_row _ _ 0 _ _ _ hk27, HCA.out.1]; rfl
             have H27 := Lib.hid h27
             have hids0 : standW M (fun x => decide (x ∈ idsW M)) = [] := stand_all (fun m hm => by simp only [decide_eq_true_eq]; exact List.mem_map.2 ⟨m, hm, rfl⟩)
             have HIDS0 := Lib.hid hids0
             obtain ⟨k, hk⟩ : ∃ k, k = (idsW M).length := ⟨_, rfl⟩
             have HK := Lib.hid hk
             clear hw27 hg8 hb27 hk27 h27 hids0 hk
             go_wp2_with (first | (go_at_call 13; refine (HC.out w27 H27.out).2.1.mono ?_; rintro e w28 ⟨A28, c28, rfl, hb28, ho28⟩; have H28 := Lib.hid (And.intro (H27.out.trans (hb28.mono H27.out.size)) (And.intro hb28 ho28)); clear hb28 ho28) | (go_at_call 10; refine (HINC.out _ _ _ _).mono ?_; rintro e w29 ⟨rfl, hin⟩; have HIN29 := Lib.hid hin; clear hin) | (go_at_call 9; refine ((HC.out w29 (H28.out.1.trans (by rw [HIN29.out]; exact ((bel1 _ _).1).mono H28.out.1.size))).1 _ _ ((in_at ((own_ikG H28.out.2.2 rfl).mono (fun k hk => hk.2)) rfl (Below.refl _ _) HIN29.out).1)).mono ?_; intro e w30 hsh; obtain ⟨A30, c30, rfl, hb30⟩ := hsh.zero (by rw [HIDS0.out]; rfl); have H30 := Lib.hid hb30; clear hsh hb30) | fail)
             first | go_ret | go_ret2 | (refine bodyPost_ret (results_tmp rfl _ _ _) rfl ?_)
             refine ⟨by kernel_rfl, ?_⟩
             have h29 : Below w11.heap.size w11 w29 := H28.out.1.trans (by rw [HIN29.out]; exact ((bel1 _ _).1).mono H28.out.1.size)
             have h30 := h29.trans (H30.out.mono h29.size)
             exact HW11.out.trans (h30.mono HW11.out.size)
end Go.Proofs.Ytbiacjkkgddclaa
