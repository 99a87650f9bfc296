/- RegOrder: the walk. -/
import Derived.Test.YtbiacjkkgddclaaK5M
namespace Go.Proofs.Ytbiacjkkgddclaa
set_option linter.unusedSimpArgs false
set_option linter.unusedVariables false
open Go Go.RowKit Go.Shelf Go.Maps

set_option maxRecDepth 100000 in
set_option maxHeartbeats 16000000 in
theorem regOrder_walk (l : List Wr) (gl : List Ik) (w : World) (A A1 : Option Addr) (c c1 : Nat) (hrow : RowW w (fun k => k < w.heap.size) (fun k => k < w.heap.size) A c l) (hok : ∀ m ∈ l, inOk m) (hg1 : IkG w (fun k => k < w.heap.size) A1 c1 gl) :
    Calls Try.prog 4 #[.slice A l.length c, .slice A1 gl.length c1] w fun e w' => e = .returned (.bool true) ∧ Below w.heap.size w w' := by
  have HAW := Lib.hid (fun wx => awake37_c wx)
  have HNEW := Lib.hid (fun wx => new_c wx)
  have HINC := Lib.hid (fun wx A n c => in_c wx A n c)
  have hsm := fun (wx : World) (hx : Below w.heap.size w wx) => small37_c (w := wx) (hrow.keep (G' := fun k => k < w.heap.size) (T' := fun k => k < w.heap.size) (fun k hk => ⟨hx.block k hk, hk⟩) (fun k hk => ⟨hx.block k hk, hk⟩)) (fun k hk => Nat.lt_of_lt_of_le hk hx.size) (fun k hk => Nat.lt_of_lt_of_le hk hx.size) rfl (fun m hm => ⟨(hok m hm).2.1, (hok m hm).2.2.1, (hok m hm).2.2.2.1⟩)
  obtain ⟨n, hn⟩ : ∃ n, n = l.length := ⟨_, rfl⟩
  obtain ⟨kg, hkg⟩ : ∃ n, n = gl.length := ⟨_, rfl⟩
  have hcc : n ≤ c ∧ c ≤ 9223372036854775807 := ⟨by rw [hn]; exact hrow.1, hrow.2.1⟩
  have hc1 := hcc.1
  have hc2 := hcc.2
  have HROW := Lib.hid (row_at2 hrow)
  have HOK := Lib.hid hok
  rw [← hn] at hsm
  rw [← hn, ← hkg]
  have HSM := Lib.hid hsm
  have HN := Lib.hid hn
  have HKG := Lib.hid hkg
  have HIG := Lib.hid hg1
  have HIK := Lib.hid (show ∀ x : Ik, (Try.prog.info? 29).map (·.size) = some x.cs.length from fun _ => ikInfo)
  have HIC := Lib.hid (show ∀ (x : Ct) (A : Option Addr) (c : Nat), (Try.prog.info? 42).map (·.size) = some (contA x A c).size ∧ (Try.prog.info? 42).map (·.size) = some (contA x A c).toList.length ∧ (contA zCt none 0).size = (contA x A c).size ∧ (contA x A c).all (·.oneCell') = true from fun x A c => ⟨infC, infC, rfl, cont_one _ _ _⟩)
  clear hsm hn hrow hok hcc hkg hg1
  go_enter Try.func4, Try.ntmps4
  rcases smallW_cases l with hs | hs
  · rw [hs] at HSM
    clear hs
    go_wp2_with (first | (go_at_call 5; refine (HAW.out _).mono ?_; rintro e w1 ⟨rfl, hb1⟩; have HB1 := Lib.hid hb1; clear hb1) | (go_at_call 6; refine (HSM.out w1 HB1.out).mono ?_; rintro e w2 ⟨rfl, hb2⟩; have HB2 := Lib.hid hb2; clear hb2) | fail)
    first | go_ret | go_ret2 | (refine bodyPost_ret (results_tmp rfl _ _ _) rfl ?_)
    exact ⟨by kernel_rfl, HB1.out.trans (HB2.out.mono HB1.out.size)⟩
  · rw [hs] at HSM
    obtain ⟨h40, h60, -⟩ := smallW_one (l := l) (by rw [hs]; decide)
    have H40 := Lib.hid (And.intro h40 h60)
    have hn40 : n ≤ 40 := by rw [HN.out]; exact h40
    clear hs h40 h60
    by_cases hg60 : 60 < kg
    · have hgI : (60 : Int) < (kg : Int) := by omega
      go_wp2_with (first | (go_at_call 5; refine (HAW.out _).mono ?_; rintro e w1 ⟨rfl, hb1⟩; have HB1 := Lib.hid hb1; clear hb1) | (go_at_call 6; refine (HSM.out w1 HB1.out).mono ?_; rintro e w2 ⟨rfl, hb2⟩; have HB2 := Lib.hid hb2; clear hb2) | fail)
      first | go_ret | go_ret2 | (refine bodyPost_ret (results_tmp rfl _ _ _) rfl ?_)
      exact ⟨by kernel_rfl, HB1.out.trans (HB2.out.mono HB1.out.size)⟩
    have hgI : ¬ ((60 : Int) < (kg : Int)) := by omega
    go_upto_region 6 with (first | (go_at_call 5; refine (HAW.out _).mono ?_; rintro e w1 ⟨rfl, hb1⟩; have HB1 := Lib.hid hb1; clear hb1) | (go_at_call 6; refine (HSM.out w1 HB1.out).mono ?_; rintro e w2 ⟨rfl, hb2⟩; have HB2 := Lib.hid hb2; clear hb2) | (go_at_call 7; refine (HNEW.out w2).mono ?_; rintro e w3 ⟨p, rfl, hr3, hb3⟩; have H3 := Lib.hid (And.intro hr3 hb3); clear hr3 hb3) | (go_at_call 7; refine (HNEW.out w3).mono ?_; rintro e w4 ⟨p2, rfl, hr4, hb4⟩; have H4 := Lib.hid (And.intro hr4 hb4); clear hr4 hb4) | fail)
    clear hgI
    obtain ⟨z0, hz0⟩ : ∃ z, z = w2.heap.size := ⟨_, rfl⟩
    have hb02 : Below w.heap.size w w2 := HB1.out.trans (HB2.out.mono HB1.out.size)
    have hb03 : Below w.heap.size w w3 := hb02.trans (H3.out.2.mono hb02.size)
    have HZ := Lib.hid (And.intro hz0 hb02)
    have hst : OrI w z0 p p2 l n (.int .i64 0) w4 := by
      have hs3 := H3.out.2.size
      have hs4 := H4.out.2.size
      refine ⟨0, Nat.zero_le _, rfl, Lib.hid ⟨hb03.trans (H4.out.2.mono hb03.size), by rw [hz0]; omega, fun j hj h => absurd h (Nat.not_lt_zero _), (fun b => w2.heap.size ≤ b ∧ b < w3.heap.size), (fun b => w3.heap.size ≤ b ∧ b < w4.heap.size), ?_, ?_, fun b hb => ⟨by rw [hz0]; exact hb.1, Nat.lt_of_lt_of_le hb.2 hs4, fun h => ?_⟩, fun b hb => ⟨by rw [hz0]; have := hb.1; omega, hb.2⟩⟩⟩
      · rw [List.take_zero]; exact H3.out.1.below H4.out.2
      · rw [List.take_zero]; exact H4.out.1
      · have h1 := h.1
        have h2 := hb.2
        omega
    have HST := Lib.hid hst
    clear hz0 hb02 hb03 hst
    go_wp2
    go_loopw [29] (fun iv wr => OrI w z0 p p2 l n iv wr) (fun iv _ => n - (intOf iv).toNat)
    case atStart => exact HST.out
    case round =>
     obtain ⟨i, hin, rfl, hR⟩ := hrel
     by_cases hi : i < n
     · have hiI : (i : Int) < (n : Int) := by omega
       have hi0 : (0 : Int) ≤ i := by omega
       have hil : i < l.length := by rw [← HN.out]; exact hi
       obtain ⟨q, o, hA, hrw⟩ := HROW.out (by omega)
       subst hA
       have HRW := Lib.hid hrw
       obtain ⟨x, hx⟩ : ∃ x, x = l[i].id := ⟨_, rfl⟩
       have hsj : OrJ wr l x i (.int .i64 0) wr := ⟨0, Nat.zero_le _, rfl, Lib.hid ⟨Below.refl _ _, fun k _ h => absurd h (Nat.not_lt_zero _)⟩⟩
       obtain ⟨W0, hW0⟩ : ∃ W, W = wr := ⟨_, rfl⟩
       rw [← hW0] at hsj hR ⊢
       have HSJ := Lib.hid hsj
       have HX := Lib.hid hx
       clear hrw hx hW0 hsj
       have hic : (i : Int) ≤ (c : Int) := by omega
       go_wp2
       go_loopw [36] (fun iv wr => OrJ W0 l x i iv wr) (fun iv _ => i - (intOf iv).toNat)
       case atStart => exact HSJ.out
       case round =>
        obtain ⟨j, hjn, rfl, hR2⟩ := hrel
        have hbw : Below w.heap.size w wr := hR.out.1.trans (hR2.out.1.mono hR.out.1.size)
        have HBW := Lib.hid hbw
        clear hbw
        by_cases hj : j < i
        · have hjI : (j : Int) < (i : Int) := by omega
          have hj0 : (0 : Int) ≤ j := by omega
          have hjl : j < l.length := by omega
          obtain ⟨A5, c5, Ao5, co5, hrg5, hsl5, hio5⟩ := HRW.out wr HBW.out j hjl
          obtain ⟨m5, hm5⟩ : ∃ m, m = l[j] := ⟨_, rfl⟩
          rw [← hm5] at hrg5 hsl5 hio5
          obtain ⟨CW5, hCW5⟩ : ∃ C, C = wrA m5 A5 c5 Ao5 co5 := ⟨_, rfl⟩
          have hic5 := rw_info m5 A5 c5 Ao5 co5
          rw [← hCW5] at hrg5 hic5
          have hone := wrA_one m5 A5 c5 Ao5 co5
          have hzs : (wrA zWr none 0 none 0).size = (wrA m5 A5 c5 Ao5 co5).size := rfl
          rw [← hCW5] at hone hzs
          obtain ⟨gb, hgb⟩ : ∃ b, b = wr.heap.size := ⟨_, rfl⟩
          obtain ⟨w5, hw5⟩ : ∃ w5, w5 = wr.alloc (.cells CW5 44) := ⟨_, rfl⟩
          have hb5 : Below wr.heap.size wr w5 := by rw [hw5]; exact (bel1 _ _).1
          have hk5 : w5.heap[gb]? = some (.cells CW5 44) := by rw [hw5, hgb]; exact heap_alloc_new _ _
          have hbx : ∀ wz, Below w5.heap.size w5 wz → wz.rangeAt gb 0 m5.id.cs := fun wz hz => (wr_rows (by rw [← hCW5]; exact (hz.block gb (Array.getElem?_eq_some_iff.1 hk5).1).trans hk5)).1
          have hxi : ∀ wz, Below w5.heap.size w5 wz → wz.rangeAt q (o + i * 32) x.cs := fun wz hz => by
            have hbz := HBW.out.trans ((hb5.trans (hz.mono hb5.size)).mono HBW.out.size)
            obtain ⟨A', c', Ao, co, h1, -, -⟩ := HRW.out wz hbz i hil
            rw [HX.out]; exact wr_id_range h1
          have hX5 := And.intro hrg5 (And.intro hic5 (And.intro hone hzs))
          have HX5 := Lib.hid hX5
          have HBX := Lib.hid hbx
          have HXI := Lib.hid hxi
          have HW5 := Lib.hid (And.intro hw5 hgb)
          have HB5 := Lib.hid hb5
          have HM5 := Lib.hid hm5
          clear hX5 hbx hxi hw5 hgb hb5 hk5 hrg5 hic5 hone hzs hCW5 hsl5 hio5 hm5
          go_upto_region 12 with (first | (refine wpList_mid rfl 44 _ rfl q (o + j * 32) rfl CW5.toList _ HX5.out.1 undRw rfl HX5.out.2.1.2 ?_; simp only [Array.toArray_toList]) | (refine wpList_rwVar rfl rfl wr.heap.size rfl ?_) | (refine wpList_storeFresh (w := wr) rfl 44 _ _ rfl wr.heap.size rfl CW5 rfl rfl HX5.out.2.1.1 HX5.out.2.2.2 HX5.out.2.2.1 ?_) | fail)
          rw [← HW5.out.1, ← HW5.out.2]
          cases hid : decide (m5.id = x) with
          | true =>
            have HID := Lib.hid hid
            clear hid
            refine wp_region_held_drew (S := fun wx => Below w5.heap.size w5 wx) (by kernel_rfl) (Below.refl _ _).drew (fun hHeld => ?_)
            refine wpAnyH_take (i := 0) (v := .pointer (some ⟨gb, 0, none⟩)) rfl (by kernel_rfl) (by kernel_rfl) (by kernel_rfl) (fun _ _ _ h => h) (Or.inl ⟨by kernel_rfl, fun _ hS => by kernel_rfl⟩) hHeld ?_
            (try simp only [Act.put, List.getElem_toArray, List.getElem_cons_succ, List.getElem_cons_zero, List.setIfInBounds_toArray, List.set_cons_zero, List.set_cons_succ])
            refine wpAnyH_take (i := 1) (v := .agg m5.id.cs.toArray) rfl (by kernel_rfl) (by kernel_rfl) (by kernel_rfl) (fun _ _ _ h => h) (yieldsIf_load_mid (by kernel_rfl) 29 _ rfl gb 0 rfl m5.id.cs _ (fun _ hS => HBX.out _ hS) ikUnd rfl (HIK.out _)) hHeld ?_
            (try simp only [Act.put, List.getElem_toArray, List.getElem_cons_succ, List.getElem_cons_zero, List.setIfInBounds_toArray, List.set_cons_zero, List.set_cons_succ])
            refine wpAnyH_take (i := 2) (v := .slice (some ⟨q, o, none⟩) n c) rfl (by kernel_rfl) (by kernel_rfl) (by kernel_rfl) (fun _ _ _ h => h) (Or.inl ⟨by kernel_rfl, fun _ hS => by kernel_rfl⟩) hHeld ?_
            (try simp only [Act.put, List.getElem_toArray, List.getElem_cons_succ, List.getElem_cons_zero, List.setIfInBounds_toArray, List.set_cons_zero, List.set_cons_succ])
            refine wpAnyH_take (i := 3) (v := .int .i64 (i : Nat)) rfl (by kernel_rfl) (by kernel_rfl) (by kernel_rfl) (fun _ _ _ h => h) (Or.inl ⟨by kernel_rfl, fun _ hS => by kernel_rfl⟩) hHeld ?_
            (try simp only [Act.put, List.getElem_toArray, List.getElem_cons_succ, List.getElem_cons_zero, List.setIfInBounds_toArray, List.set_cons_zero, List.set_cons_succ])
            refine wpAnyH_take (i := 4) (v := .pointer (some ⟨q, o + i * 32, none⟩)) rfl (by kernel_rfl) (by kernel_rfl) (by kernel_rfl) (fun _ _ _ h => h) (Or.inl ⟨by kernel_rfl, fun _ hS => ix_at37 _ _ rfl q o n c i rfl rfl hi⟩) hHeld ?_
            (try simp only [Act.put, List.getElem_toArray, List.getElem_cons_succ, List.getElem_cons_zero, List.setIfInBounds_toArray, List.set_cons_zero, List.set_cons_succ])
            refine wpAnyH_take (i := 5) (v := .pointer (some ⟨q, o + i * 32, none⟩)) rfl (by kernel_rfl) (by kernel_rfl) (by kernel_rfl) (fun _ _ _ h => h) (Or.inl ⟨by kernel_rfl, fun _ hS => by kernel_rfl⟩) hHeld ?_
            (try simp only [Act.put, List.getElem_toArray, List.getElem_cons_succ, List.getElem_cons_zero, List.setIfInBounds_toArray, List.set_cons_zero, List.set_cons_succ])
            refine wpAnyH_take (i := 6) (v := .agg x.cs.toArray) rfl (by kernel_rfl) (by kernel_rfl) (by kernel_rfl) (fun _ _ _ h => h) (yieldsIf_load_mid (by kernel_rfl) 29 _ rfl q (o + i * 32) rfl x.cs _ (fun _ hS => HXI.out _ hS) ikUnd rfl (HIK.out _)) hHeld ?_
            (try simp only [Act.put, List.getElem_toArray, List.getElem_cons_succ, List.getElem_cons_zero, List.setIfInBounds_toArray, List.set_cons_zero, List.set_cons_succ])
            refine wpAnyH_take (i := 7) (v := .bool true) rfl (by kernel_rfl) (by kernel_rfl) (by kernel_rfl) (fun _ _ _ h => h) (Or.inl ⟨by kernel_rfl, fun _ hS => ik_eq_run _ _ rfl m5.id x rfl rfl HID.out⟩) hHeld ?_
            (try simp only [Act.put, List.getElem_toArray, List.getElem_cons_succ, List.getElem_cons_zero, List.setIfInBounds_toArray, List.set_cons_zero, List.set_cons_succ])
            have HE := Lib.hid hHeld
            refine wpAnyH_done (by kernel_rfl) ?_ _
            obtain ⟨wB, hwB⟩ : ∃ x, x = w5.drew := ⟨_, rfl⟩
            rw [← hwB] at HE ⊢
            clear hHeld hwB
            go_wp2
            first | go_ret | go_ret2 | (refine bodyPost_ret (results_tmp rfl _ _ _) rfl ?_)
            exact ⟨by kernel_rfl, HBW.out.trans ((HB5.out.trans (HE.out.mono HB5.out.size)).mono HBW.out.size)⟩
          | false =>
            have HID := Lib.hid hid
            clear hid
            refine wp_region_held_drew (S := fun wx => Below w5.heap.size w5 wx) (by kernel_rfl) (Below.refl _ _).drew (fun hHeld => ?_)
            refine wpAnyH_take (i := 0) (v := .pointer (some ⟨gb, 0, none⟩)) rfl (by kernel_rfl) (by kernel_rfl) (by kernel_rfl) (fun _ _ _ h => h) (Or.inl ⟨by kernel_rfl, fun _ hS => by kernel_rfl⟩) hHeld ?_
            (try simp only [Act.put, List.getElem_toArray, List.getElem_cons_succ, List.getElem_cons_zero, List.setIfInBounds_toArray, List.set_cons_zero, List.set_cons_succ])
            refine wpAnyH_take (i := 1) (v := .agg m5.id.cs.toArray) rfl (by kernel_rfl) (by kernel_rfl) (by kernel_rfl) (fun _ _ _ h => h) (yieldsIf_load_mid (by kernel_rfl) 29 _ rfl gb 0 rfl m5.id.cs _ (fun _ hS => HBX.out _ hS) ikUnd rfl (HIK.out _)) hHeld ?_
            (try simp only [Act.put, List.getElem_toArray, List.getElem_cons_succ, List.getElem_cons_zero, List.setIfInBounds_toArray, List.set_cons_zero, List.set_cons_succ])
            refine wpAnyH_take (i := 2) (v := .slice (some ⟨q, o, none⟩) n c) rfl (by kernel_rfl) (by kernel_rfl) (by kernel_rfl) (fun _ _ _ h => h) (Or.inl ⟨by kernel_rfl, fun _ hS => by kernel_rfl⟩) hHeld ?_
            (try simp only [Act.put, List.getElem_toArray, List.getElem_cons_succ, List.getElem_cons_zero, List.setIfInBounds_toArray, List.set_cons_zero, List.set_cons_succ])
            refine wpAnyH_take (i := 3) (v := .int .i64 (i : Nat)) rfl (by kernel_rfl) (by kernel_rfl) (by kernel_rfl) (fun _ _ _ h => h) (Or.inl ⟨by kernel_rfl, fun _ hS => by kernel_rfl⟩) hHeld ?_
            (try simp only [Act.put, List.getElem_toArray, List.getElem_cons_succ, List.getElem_cons_zero, List.setIfInBounds_toArray, List.set_cons_zero, List.set_cons_succ])
            refine wpAnyH_take (i := 4) (v := .pointer (some ⟨q, o + i * 32, none⟩)) rfl (by kernel_rfl) (by kernel_rfl) (by kernel_rfl) (fun _ _ _ h => h) (Or.inl ⟨by kernel_rfl, fun _ hS => ix_at37 _ _ rfl q o n c i rfl rfl hi⟩) hHeld ?_
            (try simp only [Act.put, List.getElem_toArray, List.getElem_cons_succ, List.getElem_cons_zero, List.setIfInBounds_toArray, List.set_cons_zero, List.set_cons_succ])
            refine wpAnyH_take (i := 5) (v := .pointer (some ⟨q, o + i * 32, none⟩)) rfl (by kernel_rfl) (by kernel_rfl) (by kernel_rfl) (fun _ _ _ h => h) (Or.inl ⟨by kernel_rfl, fun _ hS => by kernel_rfl⟩) hHeld ?_
            (try simp only [Act.put, List.getElem_toArray, List.getElem_cons_succ, List.getElem_cons_zero, List.setIfInBounds_toArray, List.set_cons_zero, List.set_cons_succ])
            refine wpAnyH_take (i := 6) (v := .agg x.cs.toArray) rfl (by kernel_rfl) (by kernel_rfl) (by kernel_rfl) (fun _ _ _ h => h) (yieldsIf_load_mid (by kernel_rfl) 29 _ rfl q (o + i * 32) rfl x.cs _ (fun _ hS => HXI.out _ hS) ikUnd rfl (HIK.out _)) hHeld ?_
            (try simp only [Act.put, List.getElem_toArray, List.getElem_cons_succ, List.getElem_cons_zero, List.setIfInBounds_toArray, List.set_cons_zero, List.set_cons_succ])
            refine wpAnyH_take (i := 7) (v := .bool false) rfl (by kernel_rfl) (by kernel_rfl) (by kernel_rfl) (fun _ _ _ h => h) (Or.inl ⟨by kernel_rfl, fun _ hS => ik_eq_run _ _ rfl m5.id x rfl rfl HID.out⟩) hHeld ?_
            (try simp only [Act.put, List.getElem_toArray, List.getElem_cons_succ, List.getElem_cons_zero, List.setIfInBounds_toArray, List.set_cons_zero, List.set_cons_succ])
            have HE := Lib.hid hHeld
            refine wpAnyH_done (by kernel_rfl) ?_ _
            obtain ⟨wB, hwB⟩ : ∃ x, x = w5.drew := ⟨_, rfl⟩
            rw [← hwB] at HE ⊢
            clear hHeld hwB
            go_wp2
            go_roundw
            case measure => simp [intOf]; omega
            case rel =>
              refine ⟨j + 1, by omega, by go_num, Lib.hid ⟨hR2.out.1.trans ((HB5.out.trans (HE.out.mono HB5.out.size)).mono hR2.out.1.size), fun k hk hkj => ?_⟩⟩
              by_cases hkj' : k = j
              · subst hkj'
                rw [← HM5.out]
                exact of_decide_eq_false HID.out
              · exact hR2.out.2 k hk (by omega)
        · have hie : i = j := by omega
          subst hie
          have hjI : ¬ ((i : Int) < (i : Int)) := by omega
          obtain ⟨r, hr⟩ : ∃ r, r = n - 1 - i := ⟨_, rfl⟩
          obtain ⟨n1, hn1⟩ : ∃ n1, n1 = n - 1 := ⟨_, rfl⟩
          have hnl := HN.out
          have hrl : r < l.length := by omega
          have hw1 : wrap64 ((n : Int) - 1) = (n1 : Int) := by unfold wrap64; omega
          have hw2 : wrap64 ((n1 : Int) - (i : Int)) = (r : Int) := by unfold wrap64; omega
          have hrI : (r : Int) < (n : Int) := by omega
          have hr0 : (0 : Int) ≤ (r : Int) := by omega
          clear hnl
          obtain ⟨w15, hw15⟩ : ∃ x, x = wr := ⟨_, rfl⟩
          rw [← hw15] at hR2 HBW ⊢
          clear hw15
          obtain ⟨Za, Zb, hra, hrb, hza, hzb⟩ := hR.out.2.2.2
          have hs15 := hR2.out.1.size
          obtain ⟨A6, c6, Ao6, co6, hrg6, hsl6, hio6⟩ := HRW.out w15 HBW.out i hil
          obtain ⟨m6, hm6⟩ : ∃ m, m = l[i] := ⟨_, rfl⟩
          rw [← hm6] at hrg6 hsl6 hio6
          obtain ⟨CW6, hCW6⟩ : ∃ C, C = wrA m6 A6 c6 Ao6 co6 := ⟨_, rfl⟩
          have hic6 := rw_info m6 A6 c6 Ao6 co6
          rw [← hCW6] at hrg6 hic6
          have hin6 := wrIn_of (w := w15) (B := w.heap.size) (HOK.out m6 (by rw [hm6]; exact List.getElem_mem hil)) (H40.out.2 m6 (by rw [hm6]; exact List.getElem_mem hil)) hsl6 hio6
          have hpa := put_c (hra.below hR2.out.1) (by omega) (by have := playW_len (l.take i); rw [List.length_take] at this; omega) m6 A6 c6 Ao6 co6 hin6 HBW.out.size
          rw [← hCW6] at hpa
          have hrr : ∀ wz, Below w.heap.size w wz → ∃ CW : Array Value, wz.rangeAt q (o + r * 32) CW.toList ∧ ((Try.prog.info? 44).map (·.size) = some CW.size ∧ (Try.prog.info? 44).map (·.size) = some CW.toList.length) ∧ ∃ Ac cc Aoc coc, CW = wrA l[r] Ac cc Aoc coc ∧ WrIn wz w.heap.size l[r] Ac cc Aoc coc := fun wz hz => by
            obtain ⟨A', c', Ao, co, h1, h2, h3⟩ := HRW.out wz hz r hrl
            exact ⟨_, h1, rw_info _ _ _ _ _, A', c', Ao, co, rfl, wrIn_of (HOK.out _ (List.getElem_mem hrl)) (H40.out.2 _ (List.getElem_mem hrl)) h2 h3⟩
          obtain ⟨CW7, hrg7, hic7, A7, c7, Ao7, co7, hCW7, -⟩ := hrr w15 HBW.out
          have HRR := Lib.hid hrr
          have HRG7 := Lib.hid (And.intro hrg7 (And.intro hic7 hCW7))
          have HX6 := Lib.hid (And.intro hrg6 hic6)
          have HPA := Lib.hid hpa
          have HM6 := Lib.hid hm6
          have HRAB := Lib.hid (And.intro hra (And.intro hrb (And.intro hza hzb)))
          have HRE := Lib.hid (And.intro hr hn1)
          have hreg : ∀ w16 : World, KeepZ Za w15 w16 → Below w.heap.size w w16 ∧ RgM w16 p2 i (playW (l.reverse.take i)) Zb := fun w16 hk => by
            have hz0 := HZ.out.2.size
            have hz1 := HZ.out.1
            refine ⟨keepZ_below HBW.out hk (fun b hb => by have := (HRAB.out.2.2.1 b hb).1; omega) HBW.out.size, ?_⟩
            exact (HRAB.out.2.1.below hR2.out.1).keep hk (fun b hb h => (HRAB.out.2.2.1 b h).2.2 hb)
          have HREG := Lib.hid hreg
          clear hra hrb hza hzb hpa hrr hrg7 hic7 hCW7 hrg6 hic6 hsl6 hio6 hin6 hCW6 hm6 hr hn1 hreg HSJ
          go_upto_region 16 with (first | (refine wpList_mid rfl 44 _ rfl q (o + i * 32) rfl CW6.toList _ HX6.out.1 undRw rfl HX6.out.2.2 ?_; simp only [Array.toArray_toList]) | (go_at_call 8; refine HPA.out.mono ?_; rintro e w16 ⟨rfl, hr16, hk16⟩; have H16 := Lib.hid (And.intro hr16 hk16); clear hr16 hk16) | fail)
          have h16 := HREG.out w16 H16.out.2
          obtain ⟨CW8, hrg8, hic8, A8, c8, Ao8, co8, hCW8, hin8⟩ := HRR.out w16 h16.1
          obtain ⟨m8, hm8⟩ : ∃ m, m = l[r] := ⟨_, rfl⟩
          rw [← hm8] at hin8 hCW8
          rw [HRE.out.1] at hrg8
          have hpb := put_c h16.2 (by omega) (by have := playW_len (l.reverse.take i); rw [List.length_take] at this; omega) m8 A8 c8 Ao8 co8 hin8 h16.1.size
          rw [← hCW8] at hpb
          have HPB := Lib.hid hpb
          have HX8 := Lib.hid (And.intro hrg8 hic8)
          have H16B := Lib.hid h16
          have HM8 := Lib.hid hm8
          clear hpb hrg8 hic8 hCW8 hin8 h16 hm8
          go_wp2_with (first | (refine wpList_mid rfl 44 _ rfl q (o + (n - 1 - i) * 32) rfl CW8.toList _ HX8.out.1 undRw rfl HX8.out.2.2 ?_; simp only [Array.toArray_toList]) | (go_at_call 8; refine HPB.out.mono ?_; rintro e w17 ⟨rfl, hr17, hk17⟩; have H17 := Lib.hid (And.intro hr17 hk17); clear hr17 hk17) | fail)
          go_roundw
          case measure => simp [intOf]; omega
          case rel =>
            have hs16 := H16.out.2.size
            have hs17 := H17.out.2.size
            have hz0 := HZ.out.2.size
            have hz1 := HZ.out.1
            have hzz := hR.out.2.1
            refine ⟨i + 1, by omega, by go_num, Lib.hid ⟨?_, by omega, ?_, (fun b => (Za b ∨ (w15.heap.size ≤ b ∧ b < w16.heap.size))), (fun b => Zb b ∨ (w16.heap.size ≤ b ∧ b < w17.heap.size)), ?_, ?_, ?_, ?_⟩⟩
            · exact keepZ_below H16B.out.1 H17.out.2 (fun b hb => by have := (HRAB.out.2.2.2 b hb).1; omega) H16B.out.1.size
            · intro a ha hai k hk hka
              by_cases hai' : a = i
              · subst hai'
                rw [← HX.out]
                exact hR2.out.2 k hk hka
              · exact hR.out.2.2.1 a ha (by omega) k hk hka
            · have h := H16.out.1.keep H17.out.2 (fun b hb h => hb.elim (fun h1 => (HRAB.out.2.2.1 b h1).2.2 h) (fun h1 => by have := (HRAB.out.2.2.2 b h).2; omega))
              rw [more_next hil, ← HM6.out]
              exact h
            · have h := H17.out.1
              have e : l.reverse.take (i + 1) = l.reverse.take i ++ [m8] := by
                rw [List.take_succ_eq_append_getElem (by rw [List.length_reverse]; exact hil), List.getElem_reverse, HM8.out]
                congr 2
                have := HRE.out.1
                have := HN.out
                congr 1
                omega
              rw [e, playW_snoc]
              exact h
            · intro b hb
              rcases hb with hb | hb
              · have h := HRAB.out.2.2.1 b hb
                exact ⟨h.1, by have := h.2.1; omega, fun h' => h'.elim h.2.2 (fun h2 => by have := h.2.1; omega)⟩
              · exact ⟨by omega, by omega, fun h' => h'.elim (fun h2 => by have := (HRAB.out.2.2.2 b h2).2; omega) (fun h2 => by omega)⟩
            · intro b hb
              rcases hb with hb | hb
              · have h := HRAB.out.2.2.2 b hb
                exact ⟨h.1, by omega⟩
              · exact ⟨by omega, hb.2⟩
     · have hie : n = i := by omega
       subst hie
       have hiI : ¬ ((n : Int) < (n : Int)) := by omega
       obtain ⟨M, hM⟩ : ∃ M, M = playW l := ⟨_, rfl⟩
       obtain ⟨Za, Zb, hra, hrb, -, -⟩ := hR.out.2.2.2
       have hnd : (idsW l).Nodup := order_nodup (fun j hj k hk hkj => hR.out.2.2.1 j hj (by rw [HN.out]; exact hj) k hk hkj)
       have hl40 := H40.out.1
       rw [List.take_of_length_le (by rw [List.length_reverse, ← HN.out]; exact Nat.le_refl _), playW_rev (by omega) hnd, ← hM] at hrb
       rw [List.take_of_length_le (by rw [← HN.out]; exact Nat.le_refl _), ← hM] at hra
       obtain ⟨W, hW⟩ : ∃ W, W = wr := ⟨_, rfl⟩
       rw [← hW] at hra hrb ⊢
       have hwW : Below w.heap.size w W := by rw [hW]; exact hR.out.1
       have hMl : M.length ≤ 40 := by rw [hM]; exact Nat.le_trans (playW_len _) H40.out.1
       obtain ⟨L, hL⟩ : ∃ L, L = standW M (fun x => decide (x ∈ gl)) := ⟨_, rfl⟩
       have hmi : ∀ m ∈ L, m.x.t.d.ok ∧ m.o.length ≤ 100000 := fun m hm => by
         rw [hL] at hm
         have hm := (stand_sub.1 hm).1
         rw [hM] at hm
         have hm := (playW_good _ (by omega) m hm).1
         exact ⟨(HOK.out m hm).2.2.1, by have := H40.out.2 m hm; omega⟩
       have hlk : L = [] ∨ (lastC L).t.d.ok := by
         rcases Nat.eq_zero_or_pos L.length with h | h
         · exact .inl (List.length_eq_zero_iff.1 h)
         · obtain ⟨m, -, -, hm, e⟩ := last_mem (show L.length = (L.length - 1) + 1 by omega)
           rw [e]
           exact .inr (hmi m hm).1
       have hld : (lastC L).t.d.ok := by
         rcases hlk with rfl | h
         · exact zNd_ok
         · exact h
       have hcalls : ∀ wx, Below W.heap.size W wx → (∀ gv g, GoneV wx gv g → Calls Try.prog 11 #[.pointer (some ⟨p, 0, none⟩), gv] wx (GetP wx (standW M g)) ∧ Calls Try.prog 11 #[.pointer (some ⟨p2, 0, none⟩), gv] wx (GetP wx (standW M g))) ∧ (Calls Try.prog 15 #[.pointer (some ⟨p, 0, none⟩)] wx (fun e w' => e = .returned (.int .i64 M.length) ∧ Below wx.heap.size wx w') ∧ Calls Try.prog 15 #[.pointer (some ⟨p2, 0, none⟩)] wx (fun e w' => e = .returned (.int .i64 M.length) ∧ Below wx.heap.size wx w')) ∧ Calls Try.prog 13 #[.pointer (some ⟨p, 0, none⟩)] wx (IdsP wx (idsW M)) ∧ Calls Try.prog 13 #[.pointer (some ⟨p2, 0, none⟩)] wx (IdsP wx (idsW M)) := fun wx hx => by
         have h1 := (hra.below hx).z
         have h2 := (hrb.below hx).z
         exact ⟨fun gv g hg => ⟨get_c h1 (by omega) gv g hg, get_c h2 (by omega) gv g hg⟩, ⟨len_c h1, len_c h2⟩, ids_c h1 (by omega), ids_c h2 (by omega)⟩
       have hgl : IkG W (fun k => k < W.heap.size) A1 c1 gl := (HIG.out.below hwW).mono (fun k hk => Nat.lt_of_lt_of_le hk hwW.size)
       have HC := Lib.hid hcalls
       have HGL := Lib.hid hgl
       have HMI := Lib.hid hmi
       have HLD := Lib.hid hld
       have HLE := Lib.hid hL
       have HWW := Lib.hid hwW
       have HW20 := Lib.hid (Below.refl W.heap.size W)
       obtain ⟨k1, hk1⟩ : ∃ k, k = L.length - 1 := ⟨_, rfl⟩
       have HK1 := Lib.hid hk1
       have hk140 : k1 ≤ 100 := by
         rw [hk1, hL]
         unfold standW
         exact Nat.le_trans (Nat.sub_le _ _) (Nat.le_trans (List.length_filter_le _ _) (by omega))
       obtain ⟨ki, hki⟩ : ∃ k, k = (idsW M).length := ⟨_, rfl⟩
       obtain ⟨km, hkm⟩ : ∃ k, k = M.length := ⟨_, rfl⟩
       have HKI := Lib.hid (And.intro hki hkm)
       clear hR HST HNEW HSM HAW hra hrb hW hwW hMl hcalls hgl hmi hld hlk hL hM hnd hk1 hki hkm hl40 HROW
       go_upto_region 19 with (first | (go_at_call 10; refine (HINC.out _ _ _ _).mono ?_; rintro e w20 ⟨rfl, hin⟩; have HIN21 := Lib.hid hin; clear hin) | (go_at_call 11; refine ((HC.out w20 (in_at HGL.out HKG.out HW20.out HIN21.out).2).1 _ _ (in_at HGL.out HKG.out HW20.out HIN21.out).1).1.mono ?_; rw [← HLE.out]; rintro e w21 ⟨A21, c21, Ao21, co21, rfl, hs, hr, hb⟩; have HG21 := Lib.hid (And.intro hs (And.intro hr hb)); clear hs hr hb; obtain ⟨CA21, hCA⟩ : ∃ C, C = contA (lastC L) A21 c21 := ⟨_, rfl⟩; have hia := HIC.out (lastC L) A21 c21; rw [← hCA] at hia ⊢; have HCA21 := Lib.hid (And.intro hCA hia); clear hCA hia) | (refine wpList_contVar rfl rfl w21.heap.size rfl ?_) | (refine wpList_storeFresh (w := w21) rfl 42 _ _ rfl w21.heap.size rfl CA21 rfl rfl HCA21.out.2.1 HCA21.out.2.2.2.1 HCA21.out.2.2.2.2 ?_) | fail)
       obtain ⟨w22, hw22⟩ : ∃ x, x = w21.alloc (.cells CA21 42) := ⟨_, rfl⟩
       obtain ⟨g22, hg22⟩ : ∃ g, g = w21.heap.size := ⟨_, rfl⟩
       rw [← hw22, ← hg22, ← HK1.out]
       have hb20 : Below W.heap.size W w20 := by rw [HIN21.out]; exact (bel1 _ _).1
       have hb21 : Below W.heap.size W w21 := hb20.trans (HG21.out.2.2.mono hb20.size)
       have hb2122 : Below w21.heap.size w21 w22 := by rw [hw22]; exact (bel1 _ _).1
       have hb22 : Below W.heap.size W w22 := hb21.trans (hb2122.mono hb21.size)
       have hk22 : w22.heap[g22]? = some (.cells CA21 42) := by rw [hw22, hg22]; exact heap_alloc_new _ _
       have H22 := Lib.hid (And.intro hb2122 (And.intro hk22 hb21))
       have HB22 := Lib.hid hb22
       clear hw22 hg22 hb20 hb21 hb2122 hb22 hk22
       go_upto_region 20 with (first | (go_at_call 10; refine (HINC.out _ _ _ _).mono ?_; rintro e w23 ⟨rfl, hin⟩; have HIN24 := Lib.hid hin; clear hin) | (go_at_call 11; refine ((HC.out w23 (in_at HGL.out HKG.out HB22.out HIN24.out).2).1 _ _ (in_at HGL.out HKG.out HB22.out HIN24.out).1).2.mono ?_; rw [← HLE.out]; rintro e w24 ⟨A24, c24, Ao24, co24, rfl, hs, hr, hb⟩; have HG24 := Lib.hid (And.intro hs (And.intro hr hb)); clear hs hr hb; obtain ⟨CA24, hCA⟩ : ∃ C, C = contA (lastC L) A24 c24 := ⟨_, rfl⟩; have hia := HIC.out (lastC L) A24 c24; rw [← hCA] at hia ⊢; have HCA24 := Lib.hid (And.intro hCA hia); clear hCA hia) | (refine wpList_contVar rfl rfl w24.heap.size rfl ?_) | (refine wpList_storeFresh (w := w24) rfl 42 _ _ rfl w24.heap.size rfl CA24 rfl rfl HCA24.out.2.1 HCA24.out.2.2.2.1 HCA24.out.2.2.2.2 ?_) | fail)
       obtain ⟨w25, hw25⟩ : ∃ x, x = w24.alloc (.cells CA24 42) := ⟨_, rfl⟩
       obtain ⟨g25, hg25⟩ : ∃ g, g = w24.heap.size := ⟨_, rfl⟩
       rw [← hw25, ← hg25, ← HK1.out]
       have hb23 : Below w22.heap.size w22 w23 := by rw [HIN24.out]; exact (bel1 _ _).1
       have hb2224 : Below w22.heap.size w22 w24 := hb23.trans (HG24.out.2.2.mono hb23.size)
       have hb2425 : Below w24.heap.size w24 w25 := by rw [hw25]; exact (bel1 _ _).1
       have hb2225 : Below w22.heap.size w22 w25 := hb2224.trans (hb2425.mono hb2224.size)
       have hb25 : Below W.heap.size W w25 := HB22.out.trans (hb2225.mono HB22.out.size)
       have hk25 : w25.heap[g25]? = some (.cells CA24 42) := by rw [hw25, hg25]; exact heap_alloc_new _ _
       have hb2125 : Below w21.heap.size w21 w25 := H22.out.1.trans (hb2225.mono H22.out.1.size)
       have hr22 : w25.rangeAt g22 0 CA21.toList := row_range_ ((hb2225.block g22 (Array.getElem?_eq_some_iff.1 H22.out.2.1).1).trans H22.out.2.1) _ _ (fun j v hv => by rw [Nat.zero_add, ← Array.getElem?_toList]; exact hv)
       have hr25 : w25.rangeAt g25 0 CA24.toList := row_range_ hk25 _ _ (fun j v hv => by rw [Nat.zero_add, ← Array.getElem?_toList]; exact hv)
       have hsm : Calls Try.prog 14 #[.agg CA21, .agg CA24] w25 fun e w' => e = .returned (.bool true) ∧ Below w25.heap.size w25 w' := by
         have h := rcsame_c (lastC L) (lastC L) w25 w25.heap.size A21 A24 c21 c24 HLD.out (((HG21.out.1.at_ (B := w21.heap.size) (fun _ _ h => h.2)).below hb2125).more hb2125.size) HLD.out (((HG24.out.1.at_ (B := w24.heap.size) (fun _ _ h => h.2)).below hb2425).more hb2425.size) (Nat.le_refl _)
         rw [sameC_self] at h
         unfold contV at h
         rw [← HCA21.out.1, ← HCA24.out.1] at h
         exact h
       have hrowA : RowW w25 (fun k => k < w25.heap.size) (fun k => k < w25.heap.size) Ao21 co21 L.dropLast := HG21.out.2.1.keep (fun k hk => ⟨hb2125.block k hk.2, Nat.lt_of_lt_of_le hk.2 hb2125.size⟩) (fun k hk => ⟨hb2125.block k hk.2, Nat.lt_of_lt_of_le hk.2 hb2125.size⟩)
       have hrowB : RowW w25 (fun k => k < w25.heap.size) (fun k => k < w25.heap.size) Ao24 co24 L.dropLast := HG24.out.2.1.keep (fun k hk => ⟨hb2425.block k hk.2, Nat.lt_of_lt_of_le hk.2 hb2425.size⟩) (fun k hk => ⟨hb2425.block k hk.2, Nat.lt_of_lt_of_le hk.2 hb2425.size⟩)
       have hka : k1 ≤ co21 ∧ co21 ≤ 9223372036854775807 ∧ k1 ≤ co24 ∧ co24 ≤ 9223372036854775807 := by
         have h1 := hrowA.1
         have h2 := hrowB.1
         rw [List.length_dropLast, ← HK1.out] at h1 h2
         exact ⟨h1, hrowA.2.1, h2, hrowB.2.1⟩
       obtain ⟨hka1, hka2, hka3, hka4⟩ := hka
       have HSMC := Lib.hid hsm
       have HR22 := Lib.hid (And.intro hr22 hr25)
       have HROWA := Lib.hid hrowA
       have HROWB := Lib.hid hrowB
       have HB25 := Lib.hid hb25
       clear hw25 hg25 hb23 hb2224 hb2425 hb2225 hb25 hk25 hb2125 hr22 hr25 hsm hrowA hrowB
       have HLA := HC
       have HIA := HC
       go_upto_region 23 with (first | (refine wpList_mid rfl 42 _ rfl g22 0 rfl CA21.toList _ HR22.out.1 undC rfl HCA21.out.2.2.1 ?_; simp only [Array.toArray_toList]) | (refine wpList_mid rfl 42 _ rfl g25 0 rfl CA24.toList _ HR22.out.2 undC rfl HCA24.out.2.2.1 ?_; simp only [Array.toArray_toList]) | (go_at_call 14; refine HSMC.out.mono ?_; rintro e w26 ⟨rfl, hb26⟩; have H26 := Lib.hid (And.intro hb26 (HB25.out.trans (hb26.mono HB25.out.size))); clear hb26) | (go_at_call 15; refine (HLA.out w26 H26.out.2).2.1.1.mono ?_; clear HLA; rintro e w27 ⟨rfl, hb27⟩; have H27 := Lib.hid (And.intro (H26.out.1.trans (hb27.mono H26.out.1.size)) (H26.out.2.trans (hb27.mono H26.out.2.size))); clear hb27; rw [← HKI.out.2]) | (go_at_call 15; refine (HC.out w27 H27.out.2).2.1.2.mono ?_; rintro e w28 ⟨rfl, hb28⟩; have H28 := Lib.hid (And.intro (H27.out.1.trans (hb28.mono H27.out.1.size)) (H27.out.2.trans (hb28.mono H27.out.2.size))); clear hb28; rw [← HKI.out.2]) | (go_at_call 13; refine (HIA.out w28 H28.out.2).2.2.1.mono ?_; clear HIA; rintro e w29 ⟨A29, c29, rfl, hb29, -⟩; have H29 := Lib.hid (And.intro (H28.out.1.trans (hb29.mono H28.out.1.size)) (H28.out.2.trans (hb29.mono H28.out.2.size))); clear hb29; rw [← HKI.out.1]) | (go_at_call 13; refine (HC.out w29 H29.out.2).2.2.2.mono ?_; rintro e w30 ⟨A30, c30, rfl, hb30, -⟩; have H30 := Lib.hid (And.intro (H29.out.1.trans (hb30.mono H29.out.1.size)) (H29.out.2.trans (hb30.mono H29.out.2.size))); clear hb30; rw [← HKI.out.1]) | fail)
       have hs4 : MoK w30 k1 (.int .i64 0) w30 := ⟨0, Nat.zero_le _, rfl, Lib.hid (Below.refl _ _)⟩
       have HS4 := Lib.hid hs4
       clear hs4
       go_loopw [109] (fun iv wr => MoK w30 k1 iv wr) (fun iv _ => k1 - (intOf iv).toNat)
       case atStart => exact HS4.out
       case round =>
        obtain ⟨i, hin, rfl, hR3⟩ := hrel
        have hbr : Below w25.heap.size w25 wr := H30.out.1.trans (hR3.out.mono H30.out.1.size)
        have HBR := Lib.hid hbr
        clear hbr
        by_cases hi : i < k1
        · have hiI : (i : Int) < (k1 : Int) := by omega
          have hi0 : (0 : Int) ≤ i := by omega
          have hdl : i < L.dropLast.length := by rw [List.length_dropLast, ← HK1.out]; exact hi
          obtain ⟨qa, oa, hA1, hrwA⟩ := row_at2 HROWA.out (by omega)
          obtain ⟨qb, ob, hA2, hrwB⟩ := row_at2 HROWB.out (by omega)
          obtain ⟨A5, c5, Ao5, co5, hra5, hsa5, hia5⟩ := hrwA wr HBR.out i hdl
          obtain ⟨A6, c6, Ao6, co6, hrb6, hsb6, hib6⟩ := hrwB wr HBR.out i hdl
          obtain ⟨m, hm⟩ : ∃ m, m = L.dropLast[i] := ⟨_, rfl⟩
          rw [← hm] at hra5 hsa5 hia5 hrb6 hsb6 hib6
          have hmok := HMI.out m (by rw [hm]; exact List.dropLast_subset _ (List.getElem_mem hdl))
          have hqa : qa < w25.heap.size := by
            obtain ⟨b, o, e, hg, -⟩ := HROWA.out.2.2.resolve_left (fun e => by rw [e] at hdl; exact absurd hdl (Nat.not_lt_zero _))
            rw [hA1] at e
            simp only [Option.some.injEq, Addr.mk.injEq, and_true] at e
            rw [e.1]; exact hg
          have hqb : qb < w25.heap.size := by
            obtain ⟨b, o, e, hg, -⟩ := HROWB.out.2.2.resolve_left (fun e => by rw [e] at hdl; exact absurd hdl (Nat.not_lt_zero _))
            rw [hA2] at e
            simp only [Option.some.injEq, Addr.mk.injEq, and_true] at e
            rw [e.1]; exact hg
          obtain ⟨CA5, hCA5⟩ : ∃ C, C = wrA m A5 c5 Ao5 co5 := ⟨_, rfl⟩
          obtain ⟨CB5, hCB5⟩ : ∃ C, C = wrA m A6 c6 Ao6 co6 := ⟨_, rfl⟩
          have hs25 := HBR.out.size
          have hsame : ∀ wz, Below wr.heap.size wr wz → Calls Try.prog 16 #[.agg CA5, .agg CB5] wz fun e w' => e = .returned (.bool true) ∧ Below wz.heap.size wz w' := fun wz hz => by
            rw [hCA5, hCB5]
            exact same37_c wz w25.heap.size m A5 A6 c5 c6 Ao5 Ao6 co5 co6 hmok.1 (hsa5.below (hz.mono hs25)) (hsb6.below (hz.mono hs25)) (hia5.below (hz.mono hs25)) (hib6.below (hz.mono hs25)) (Nat.le_trans hs25 hz.size) hmok.2
          have hia := (show (Try.prog.info? 47).map (·.size) = some CA5.toList.length from by rw [hCA5]; exact (wr_idx _ _ _ _ _).2)
          have hib := (show (Try.prog.info? 47).map (·.size) = some CB5.toList.length from by rw [hCB5]; exact (wr_idx _ _ _ _ _).2)
          have hra : ∀ wz, Below wr.heap.size wr wz → wz.rangeAt qa (oa + i * 32) CA5.toList := fun wz hz j v hv => (World.cell?_of_block (a := ⟨qa, oa + i * 32 + j, none⟩) (hz.block qa (by omega))).trans (hra5 j v (by rw [← hCA5]; exact hv))
          have hrb : ∀ wz, Below wr.heap.size wr wz → wz.rangeAt qb (ob + i * 32) CB5.toList := fun wz hz j v hv => (World.cell?_of_block (a := ⟨qb, ob + i * 32 + j, none⟩) (hz.block qb (by omega))).trans (hrb6 j v (by rw [← hCB5]; exact hv))
          have HSA := Lib.hid hsame
          have HIA := Lib.hid hia
          have HIB := Lib.hid hib
          have HRA := Lib.hid hra
          have HRB := Lib.hid hrb
          have HA1 := Lib.hid (And.intro hA1 hA2)
          clear hsame hia hib hra hrb hra5 hsa5 hia5 hrb6 hsb6 hib6 hCA5 hCB5 hm hmok hqa hqb hrwA hrwB hdl
          subst hA1
          subst hA2
          go_upto_region 25 with (fail)
          refine wp_region_held_drew (S := fun wx => Below wr.heap.size wr wx) (by kernel_rfl) (Below.refl _ _).drew (fun hHeld => ?_)
          obtain ⟨wa, hwa⟩ : ∃ x, x = wr.drew := ⟨_, rfl⟩
          rw [← hwa] at hHeld ⊢
          clear hwa
          refine wpAnyH_take (i := 0) (v := .slice (some ⟨qa, oa, none⟩) k1 co21) rfl (by kernel_rfl) (by kernel_rfl) (by kernel_rfl) (fun _ _ _ h => h) (Or.inl ⟨by kernel_rfl, fun _ hS => by kernel_rfl⟩) hHeld ?_
          (try simp only [Act.put, List.getElem_toArray, List.getElem_cons_succ, List.getElem_cons_zero, List.setIfInBounds_toArray, List.set_cons_zero, List.set_cons_succ])
          refine wpAnyH_take (i := 1) (v := .int .i64 (i : Nat)) rfl (by kernel_rfl) (by kernel_rfl) (by kernel_rfl) (fun _ _ _ h => h) (Or.inl ⟨by kernel_rfl, fun _ hS => by kernel_rfl⟩) hHeld ?_
          (try simp only [Act.put, List.getElem_toArray, List.getElem_cons_succ, List.getElem_cons_zero, List.setIfInBounds_toArray, List.set_cons_zero, List.set_cons_succ])
          refine wpAnyH_take (i := 2) (v := .pointer (some ⟨qa, oa + i * 32, none⟩)) rfl (by kernel_rfl) (by kernel_rfl) (by kernel_rfl) (fun _ _ _ h => h) (Or.inl ⟨by kernel_rfl, fun _ hS => ix_at37r _ _ rfl qa oa k1 co21 i rfl rfl hi⟩) hHeld ?_
          (try simp only [Act.put, List.getElem_toArray, List.getElem_cons_succ, List.getElem_cons_zero, List.setIfInBounds_toArray, List.set_cons_zero, List.set_cons_succ])
          refine wpAnyH_take (i := 3) (v := .agg CA5.toList.toArray) rfl (by kernel_rfl) (by kernel_rfl) (by kernel_rfl) (fun _ _ _ h => h) (yieldsIf_load_mid (by kernel_rfl) 47 _ rfl qa (oa + i * 32) rfl CA5.toList _ (fun _ hS => HRA.out _ hS) undWr rfl HIA.out) hHeld ?_
          (try simp only [Act.put, List.getElem_toArray, List.getElem_cons_succ, List.getElem_cons_zero, List.setIfInBounds_toArray, List.set_cons_zero, List.set_cons_succ])
          refine wpAnyH_take (i := 4) (v := .slice (some ⟨qb, ob, none⟩) k1 co24) rfl (by kernel_rfl) (by kernel_rfl) (by kernel_rfl) (fun _ _ _ h => h) (Or.inl ⟨by kernel_rfl, fun _ hS => by kernel_rfl⟩) hHeld ?_
          (try simp only [Act.put, List.getElem_toArray, List.getElem_cons_succ, List.getElem_cons_zero, List.setIfInBounds_toArray, List.set_cons_zero, List.set_cons_succ])
          refine wpAnyH_take (i := 5) (v := .int .i64 (i : Nat)) rfl (by kernel_rfl) (by kernel_rfl) (by kernel_rfl) (fun _ _ _ h => h) (Or.inl ⟨by kernel_rfl, fun _ hS => by kernel_rfl⟩) hHeld ?_
          (try simp only [Act.put, List.getElem_toArray, List.getElem_cons_succ, List.getElem_cons_zero, List.setIfInBounds_toArray, List.set_cons_zero, List.set_cons_succ])
          refine wpAnyH_take (i := 6) (v := .pointer (some ⟨qb, ob + i * 32, none⟩)) rfl (by kernel_rfl) (by kernel_rfl) (by kernel_rfl) (fun _ _ _ h => h) (Or.inl ⟨by kernel_rfl, fun _ hS => ix_at37r _ _ rfl qb ob k1 co24 i rfl rfl hi⟩) hHeld ?_
          (try simp only [Act.put, List.getElem_toArray, List.getElem_cons_succ, List.getElem_cons_zero, List.setIfInBounds_toArray, List.set_cons_zero, List.set_cons_succ])
          refine wpAnyH_take (i := 7) (v := .agg CB5.toList.toArray) rfl (by kernel_rfl) (by kernel_rfl) (by kernel_rfl) (fun _ _ _ h => h) (yieldsIf_load_mid (by kernel_rfl) 47 _ rfl qb (ob + i * 32) rfl CB5.toList _ (fun _ hS => HRB.out _ hS) undWr rfl HIB.out) hHeld ?_
          (try simp only [Act.put, List.getElem_toArray, List.getElem_cons_succ, List.getElem_cons_zero, List.setIfInBounds_toArray, List.set_cons_zero, List.set_cons_succ])
          refine wpAnyH_ready (rs := [8]) (by kernel_rfl) (by simp) ?_
          refine AllReadyH.cons rfl (fun K hK => ?_) AllReadyH.nil
          go_simp
          try simp only [Array.toArray_toList]
          refine (HSA.out wa hHeld).mono ?_
          rintro e wb ⟨rfl, hbb⟩
          try go_simp
          have hbb2 : Below wr.heap.size wr wb := hHeld.trans (hbb.mono hHeld.size)
          refine hK.out _ _ hbb2 (fun hHeld1 => ?_)
          clear hK K hHeld hbb2
          have hHeld := hHeld1
          clear hHeld1
          (try simp only [Act.put, List.getElem_toArray, List.getElem_cons_succ, List.getElem_cons_zero, List.setIfInBounds_toArray, List.set_cons_zero, List.set_cons_succ])
          clear hbb
          refine wpAnyH_take (i := 9) (v := .bool false) rfl (by kernel_rfl) (by kernel_rfl) (by kernel_rfl) (fun _ _ _ h => h) (Or.inl ⟨by kernel_rfl, fun _ hS => by kernel_rfl⟩) hHeld ?_
          (try simp only [Act.put, List.getElem_toArray, List.getElem_cons_succ, List.getElem_cons_zero, List.setIfInBounds_toArray, List.set_cons_zero, List.set_cons_succ])
          have HE := Lib.hid hHeld
          refine wpAnyH_done (by kernel_rfl) ?_ _
          clear hHeld
          go_wp2
          go_roundw
          case measure => simp [intOf]; omega
          case rel => exact ⟨i + 1, by omega, by go_num, Lib.hid (hR3.out.trans (HE.out.mono hR3.out.size))⟩
        · have hie : k1 = i := by omega
          subst hie
          have hiI : ¬ ((k1 : Int) < (k1 : Int)) := by omega
          go_wp2
          first | go_ret | go_ret2 | (refine bodyPost_ret (results_tmp rfl _ _ _) rfl ?_)
          have h := HB25.out.trans (HBR.out.mono HB25.out.size)
          exact ⟨by kernel_rfl, HWW.out.trans (h.mono HWW.out.size)⟩
end Go.Proofs.Ytbiacjkkgddclaa
