/- RegAlone: the walk. -/
import Derived.Test.YtbiacjkkgddclaaGreatK0FeFfFg
import Derived.Test.YtbiacjkkgddclaaGreatDpFlXt
namespace Go.Proofs.YtbiacjkkgddclaaGreat
set_option linter.unusedSimpArgs false
set_option linter.unusedVariables false
open Go Go.RowKit Go.Shelf Go.Maps

theorem ix_atWo {o : Oper} {ρ : Operand → Value} {w : World} (x y : Operand) (ho : o.op = .indexAddr 54 x y) (g of ln cap i : Nat) (hx : ρ x = .slice (some ⟨g, of, none⟩) ln cap) (hy : ρ y = .int .i64 i) (hi : i < ln) : (execOp ρ o).run Tryz.prog w = .ok (.value (.pointer (some ⟨g, of + i * 32, none⟩))) w := by
  have h1 : (0 : Int) ≤ i := by omega
  have h2 : (i : Int) < ln := by omega
  unfold execOp
  simp only [ho, hx, hy]
  simp [go_sem, h1, h2]
theorem lastok {M l : List Wr} {m : Wr} (hM : M = playW (l.map stripW)) (hl : l.length ≤ 40) (hok : ∀ m ∈ l, inOk m) (hm : m ∈ M) : m.x.t.d.ok := by
  rw [hM] at hm
  obtain ⟨h1, -⟩ := playW_good _ (by rw [List.length_map]; omega) m hm
  obtain ⟨y, hy, rfl⟩ := List.mem_map.1 h1
  exact (hok y hy).2.2.1
/-- where the first loop stands. -/
def AlI (w : World) (z0 p : Nat) (l : List Wr) (n : Nat) (iv : Value) (wr : World) : Prop := ∃ i : Nat, i ≤ n ∧ iv = .int .i64 i ∧ Hid (Below w.heap.size w wr ∧ z0 ≤ wr.heap.size ∧ RgM wr p i (playW ((l.map stripW).take i)) (fun b => z0 ≤ b))
def AlJ (w W : World) (k : Nat) (iv : Value) (wr : World) : Prop := ∃ i : Nat, i ≤ k ∧ (0 < k → i < k) ∧ iv = .int .i64 i ∧ Hid (Below W.heap.size W wr)
def AlK (W : World) (l : List Wr) (a : Ik) (n : Nat) (iv : Value) (wr : World) : Prop := ∃ t : Nat, t ≤ n ∧ iv = .int .i64 t ∧ Hid (Below W.heap.size W wr ∧ ∀ j (hj : j < l.length), j < t → l[j].id = a → rightC l[j].x = false)
theorem alone_next {l : List Wr} {i : Nat} (hi : i < l.length) : playW ((l.map stripW).take (i + 1)) = (putW (playW ((l.map stripW).take i)) (stripW l[i])).1 := by
  rw [List.take_succ_eq_append_getElem (by simpa using hi), playW_snoc]
  simp
theorem alone_stand (l : List Wr) (hl : l.length < 10000) : standW (playW (l.map stripW)) (fun _ => false) = playW (l.map stripW) :=
  stand_alone (fun m hm => by
    obtain ⟨h1, -⟩ := playW_good _ (by simpa using hl) m hm
    obtain ⟨y, -, rfl⟩ := List.mem_map.1 h1
    rfl)
/-- the first that may be, of the last id, is what is shown. -/
theorem alone_first {l : List Wr} (hl : l.length < 10000) {m : Wr} (hm : m ∈ playW (l.map stripW)) {t : Nat} (ht : t < l.length) (he : l[t].id = m.id) (hr : rightC l[t].x = true) (hn : ∀ j (hj : j < l.length), j < t → l[j].id = m.id → rightC l[j].x = false) : m.x = l[t].x := by
  have hg0 := (playW_good _ (by simpa using hl) m hm).2
  have hmay : mayI m.id = true := by
    unfold goodW datedB at hg0
    simp only [Bool.and_eq_true] at hg0
    exact hg0.1.1
  have := playW_first (L := l.map stripW) (by simpa using hl) hm (t := t) (by simpa using ht) (by simpa [stripW] using he) (by
    rw [List.getElem_map, strip_good, he, hmay, hr]; rfl) (fun j hj hjt e => by
    rw [List.getElem_map] at e ⊢
    rw [strip_good, hn j (by simpa using hj) hjt e, Bool.and_false])
  rw [List.getElem_map] at this
  rw [← this]; rfl
theorem alone_some {l : List Wr} (hl : l.length < 10000) {m : Wr} (hm : m ∈ playW (l.map stripW)) : ∃ t, ∃ h : t < l.length, l[t].id = m.id ∧ rightC l[t].x = true := by
  obtain ⟨h1, h2⟩ := playW_good _ (by simpa using hl) m hm
  obtain ⟨t, ht, e⟩ := List.mem_iff_getElem.1 h1
  rw [List.getElem_map] at e
  refine ⟨t, by simpa using ht, by rw [← e]; rfl, ?_⟩
  rw [← e, strip_good] at h2
  simp only [Bool.and_eq_true] at h2
  exact h2.2
set_option maxRecDepth 100000 in
set_option maxHeartbeats 16000000 in
theorem regAlone_walk (l : List Wr) (w : World) (A : Option Addr) (c : Nat) (hrow : RowW w (fun k => k < w.heap.size) (fun k => k < w.heap.size) A c l) (hok : ∀ m ∈ l, inOk m) :
    Calls Tryz.prog 4 #[.slice A l.length c] w fun e w' => e = .returned (.bool true) ∧ Below w.heap.size w w' := by
  have HAW := Lib.hid (fun wx => awake37_c wx)
  have HNEW := Lib.hid (fun wx => new_c wx)
  have hsm := fun (wx : World) (hx : Below w.heap.size w wx) => small37_c (w := wx) (hrow.keep (G' := fun k => k < w.heap.size) (T' := fun k => k < w.heap.size) (fun k hk => ⟨hx.block k hk, hk⟩) (fun k hk => ⟨hx.block k hk, hk⟩)) (fun k hk => Nat.lt_of_lt_of_le hk hx.size) (fun k hk => Nat.lt_of_lt_of_le hk hx.size) rfl (fun m hm => ⟨(hok m hm).2.1, (hok m hm).2.2.1, (hok m hm).2.2.2.1⟩)
  obtain ⟨n, hn⟩ : ∃ n, n = l.length := ⟨_, rfl⟩
  have hcc : n ≤ c ∧ c ≤ 9223372036854775807 := ⟨by rw [hn]; exact hrow.1, hrow.2.1⟩
  have hc1 := hcc.1
  have hc2 := hcc.2
  have HROW := Lib.hid (row_at hrow)
  have HOK := Lib.hid hok
  rw [← hn] at hsm ⊢
  have HSM := Lib.hid hsm
  have HN := Lib.hid hn
  have HIL := Lib.hid (show ∀ a b : Value, (Tryz.prog.info? 28).map (·.size) = some [a, b].length from fun _ _ => ikInfo)
  have HIK := Lib.hid (show ∀ x : Ik, (Tryz.prog.info? 28).map (·.size) = some x.cs.length from fun _ => ikInfo)
  have HIC := Lib.hid (show ∀ (x : Ct) (A : Option Addr) (c : Nat), (Tryz.prog.info? 37).map (·.size) = some (contA x A c).size ∧ (Tryz.prog.info? 37).map (·.size) = some (contA x A c).toList.length ∧ (contA zCt none 0).size = (contA x A c).size ∧ (contA x A c).all (·.oneCell') = true from fun x A c => ⟨infC, infC, rfl, cont_one _ _ _⟩)
  clear hsm hn hrow hok hcc
  go_enter Tryz.func4, Tryz.ntmps4
  rcases smallW_cases l with hs | hs
  · rw [hs] at HSM
    clear hs
    go_wp2_with (first | (go_at_call 8; refine (HAW.out _).mono ?_; rintro e w1 ⟨rfl, hb1⟩; have HB1 := Lib.hid hb1; clear hb1) | (go_at_call 9; refine (HSM.out w1 HB1.out).mono ?_; rintro e w2 ⟨rfl, hb2⟩; have HB2 := Lib.hid hb2; clear hb2) | fail)
    first | go_ret | go_ret2 | (refine bodyPost_ret (results_tmp rfl _ _ _) rfl ?_)
    exact ⟨by kernel_rfl, HB1.out.trans (HB2.out.mono HB1.out.size)⟩
  · rw [hs] at HSM
    obtain ⟨h40, h60, -⟩ := smallW_one (l := l) (by rw [hs]; decide)
    have H40 := Lib.hid (And.intro h40 h60)
    have hn40 : n ≤ 40 := by rw [HN.out]; exact h40
    clear hs h40 h60
    go_upto_region 6 with (first | (go_at_call 8; refine (HAW.out _).mono ?_; rintro e w1 ⟨rfl, hb1⟩; have HB1 := Lib.hid hb1; clear hb1) | (go_at_call 9; refine (HSM.out w1 HB1.out).mono ?_; rintro e w2 ⟨rfl, hb2⟩; have HB2 := Lib.hid hb2; clear hb2) | (go_at_call 12; refine (HNEW.out _).mono ?_; rintro e w3 ⟨p, rfl, hr3, hb3⟩; have H3 := Lib.hid (And.intro hr3 hb3); clear hr3 hb3) | fail)
    obtain ⟨z0, hz0⟩ : ∃ z, z = w2.heap.size := ⟨_, rfl⟩
    have hb02 : Below w.heap.size w w2 := HB1.out.trans (HB2.out.mono HB1.out.size)
    have HZ := Lib.hid (And.intro hz0 hb02)
    have hst : AlI w z0 p l n (.int .i64 0) w3 := ⟨0, Nat.zero_le _, rfl, Lib.hid ⟨hb02.trans (H3.out.2.mono hb02.size), by rw [hz0]; exact H3.out.2.size, by rw [List.take_zero]; exact H3.out.1.zone (fun b hb => by rw [hz0]; exact hb.1)⟩⟩
    have HST := Lib.hid hst
    clear hz0 hb02 hst
    go_wp2
    go_loopw [22] (fun iv wr => AlI w z0 p l n iv wr) (fun iv _ => n - (intOf iv).toNat)
    case atStart => exact HST.out
    case round =>
     obtain ⟨i, hin, rfl, hR⟩ := hrel
     by_cases hi : i < n
     · have hiI : (i : Int) < (n : Int) := by omega
       have hi0 : (0 : Int) ≤ i := by omega
       have hil : i < l.length := by rw [← HN.out]; exact hi
       obtain ⟨q, o, hA, A', c', Ao, co, hrg, hsl, hio⟩ := HROW.out wr hR.out.1 i hil
       subst hA
       obtain ⟨m, hm⟩ : ∃ m, m = l[i] := ⟨_, rfl⟩
       rw [← hm] at hrg hsl hio
       have hmin := HOK.out m (by rw [hm]; exact List.getElem_mem hil)
       obtain ⟨CW, hCW⟩ : ∃ C, C = wrA m A' c' Ao co := ⟨_, rfl⟩
       obtain ⟨gb, hgb⟩ : ∃ b, b = wr.heap.size := ⟨_, rfl⟩
       obtain ⟨w5, hw5⟩ : ∃ w5, w5 = wr.alloc (.cells CW 46) := ⟨_, rfl⟩
       have hb5 : Below wr.heap.size wr w5 := by rw [hw5]; exact (bel1 _ _).1
       have hk5 : w5.heap[gb]? = some (.cells CW 46) := by rw [hw5, hgb]; exact heap_alloc_new _ _
       have hic := rw_info m A' c' Ao co
       have h1w := wrA_one m A' c' Ao co
       have hzs : (wrA zWr none 0 none 0).size = (wrA m A' c' Ao co).size := rfl
       have hws : w.heap.size ≤ wr.heap.size := Below.size hR.out.1
       have hsl5 : SlAt w5 wr.heap.size A' c' m.x.t.l := (hsl.more hws).below hb5
       have hio5 : IkG w5 (fun k => k < wr.heap.size) Ao co m.o := (hio.mono (fun k hk => Nat.lt_of_lt_of_le hk hws)).below hb5
       rw [← hCW] at hrg hic h1w hzs
       have HX := Lib.hid (And.intro hrg (And.intro hic (And.intro h1w (And.intro hzs (And.intro hk5 (And.intro hb5 (And.intro hsl5 hio5)))))))
       have HMIN := Lib.hid hmin
       have HW5 := Lib.hid hw5
       have HGB := Lib.hid hgb
       have HM := Lib.hid hm
       have HCW := Lib.hid hCW
       clear hrg hic h1w hzs hk5 hb5 hsl5 hio5 hmin hw5 hgb hm hCW hsl hio hws
       have hrr := wr_rows (by rw [← HCW.out]; exact HX.out.2.2.2.2.1)
       have hput := put_c (hR.out.2.2.below HX.out.2.2.2.2.2.1) (by omega) (by have := playW_len ((l.map stripW).take i); rw [List.length_take] at this; omega) (stripW m) A' c' none 0 ⟨HMIN.out.1, HMIN.out.2.1, HMIN.out.2.2.1, HMIN.out.2.2.2.1, HX.out.2.2.2.2.2.2.1, IkG.nil _ _ _ _ (by omega), fun _ h => (List.not_mem_nil h).elim, by show (0:Nat) ≤ _; omega⟩ (HX.out.2.2.2.2.2.1.size)
       obtain ⟨CX, hCX⟩ : ∃ C, C = contA m.x A' c' := ⟨_, rfl⟩
       obtain ⟨NW, hNW⟩ : ∃ C, C = wrA (stripW m) A' c' none 0 := ⟨_, rfl⟩
       rw [← hNW] at hput
       have HRR := Lib.hid (show w5.rangeAt gb 0 m.id.cs ∧ w5.rangeAt gb 2 CX.toList ∧ (Tryz.prog.info? 37).map (·.size) = some CX.toList.length from ⟨hrr.1, by rw [hCX]; exact hrr.2.1, by rw [hCX]; exact infC⟩)
       have HPUT := Lib.hid hput
       have HNW := Lib.hid (And.intro hNW hCX)
       clear hrr hput hNW hCX
       go_upto_region 9 with (first | (refine wpList_mid rfl 46 _ rfl q (o + i * 32) rfl CW.toList _ HX.out.1 undRw rfl HX.out.2.1.2 ?_; simp only [Array.toArray_toList]) | (refine wpList_rwVar rfl rfl wr.heap.size rfl ?_) | (refine wpList_storeFresh (w := wr) rfl 46 _ _ rfl wr.heap.size rfl CW rfl rfl HX.out.2.1.1 HX.out.2.2.2.1 HX.out.2.2.1 ?_) | fail)
       rw [← HW5.out, ← HGB.out]
       go_wp2_with (first | (refine wpList_mid rfl 28 _ rfl gb 0 rfl m.id.cs _ HRR.out.1 ikUnd rfl (HIK.out _) ?_) | (refine wpList_mid rfl 37 _ rfl gb 2 rfl CX.toList _ HRR.out.2.1 undC rfl HRR.out.2.2 ?_; simp only [Array.toArray_toList]) | (refine wpList_buildSome rfl 49 _ rfl NW ?_ ?_; focus (rw [HNW.out.1, HNW.out.2]; kernel_rfl)) | (go_at_call 13; refine HPUT.out.mono ?_; rintro e w6 ⟨rfl, hr6, hk6⟩; have H6 := Lib.hid (And.intro hr6 hk6); clear hr6 hk6) | fail)
       go_roundw
       case measure => simp [intOf]; omega
       case rel =>
         have h5 := HX.out.2.2.2.2.2.1
         have hz := hR.out.2.1
         have h15 := HZ.out
         have hs2 := h15.2.size
         have hw5 : Below w.heap.size w w5 := hR.out.1.trans (h5.mono hR.out.1.size)
         refine ⟨i + 1, by omega, by go_num, Lib.hid ⟨?_, ?_, ?_⟩⟩
         · exact keepZ_below hw5 H6.out.2 (fun b hb => by have hb' : z0 ≤ b := hb; omega) hw5.size
         · have := H6.out.2.size; have := h5.size; omega
         · rw [alone_next hil, ← HM.out]
           exact H6.out.1.zone (fun b hb => hb.elim (fun h => h) (fun h => by have := h5.size; show z0 ≤ b; omega))
     · have hie : n = i := by omega
       subst hie
       have hiI : ¬ ((n : Int) < (n : Int)) := by omega
       obtain ⟨M, hM⟩ : ∃ M, M = playW (l.map stripW) := ⟨_, rfl⟩
       have hrg := hR.out.2.2
       rw [List.take_of_length_le (by rw [List.length_map, ← HN.out]; exact Nat.le_refl _), ← hM] at hrg
       obtain ⟨W, hW⟩ : ∃ W, W = wr := ⟨_, rfl⟩
       rw [← hW] at hrg ⊢
       have hwW : Below w.heap.size w W := by rw [hW]; exact hR.out.1
       have hMl : M.length ≤ 40 := by rw [hM]; exact Nat.le_trans (playW_len _) (by rw [List.length_map]; exact H40.out.1)
       have hMs : standW M (fun _ => false) = M := by rw [hM]; exact alone_stand l (by have := H40.out.1; omega)
       obtain ⟨k, hk⟩ : ∃ k, k = M.length := ⟨_, rfl⟩
       have hik : (idsW M).length = k := by rw [hk]; simp [idsW]
       have hcalls : ∀ wx, Below W.heap.size W wx → Calls Tryz.prog 14 #[.pointer (some ⟨p, 0, none⟩)] wx (IdsP wx (idsW M)) ∧ Calls Tryz.prog 15 #[.pointer (some ⟨p, 0, none⟩), .nilFunc] wx (IdsP wx (idsW M)) ∧ Calls Tryz.prog 17 #[.pointer (some ⟨p, 0, none⟩), .nilFunc] wx (GetP wx M) := fun wx hx => by
         have h1 := (hrg.below hx).z
         have h2 := shown_c h1 (by omega) .nilFunc _ (gone_nil wx)
         have h3 := get_c h1 (by omega) .nilFunc _ (gone_nil wx)
         rw [hMs] at h2 h3
         exact ⟨ids_c h1 (by omega), h2, h3⟩
       have HC := Lib.hid hcalls
       have HWW := Lib.hid hwW
       have HMM := Lib.hid (And.intro hM (And.intro hMl (And.intro hk hik)))
       clear hR HST HNEW HSM HAW H3 hrg hW hwW hMl hMs hcalls hM hk hik
       go_upto_region 13 with (first | (go_at_call 14; refine (HC.out W (Below.refl _ _)).1.mono ?_; rintro e w6 ⟨A6, c6, rfl, hb6, ho6⟩; have H6 := Lib.hid (And.intro hb6 ho6); clear hb6 ho6) | (go_at_call 15; refine (HC.out w6 H6.out.1).2.1.mono ?_; rintro e w7 ⟨A7, c7, rfl, hb7, ho7⟩; have H7 := Lib.hid (And.intro (H6.out.1.trans (hb7.mono H6.out.1.size)) (And.intro hb7 ho7)); clear hb7 ho7) | (go_at_call 17; refine (HC.out w7 H7.out.1).2.2.mono ?_; rintro e w8 ⟨A8, c8, Ao8, co8, rfl, hs8, hr8, hb8⟩; have H8 := Lib.hid (And.intro (H7.out.1.trans (hb8.mono H7.out.1.size)) (And.intro hb8 (And.intro hs8 hr8))); clear hs8 hr8 hb8; obtain ⟨CA, hCA⟩ : ∃ C, C = contA (lastC M) A8 c8 := ⟨_, rfl⟩; have hia := HIC.out (lastC M) A8 c8; rw [← hCA] at hia ⊢; have HCA := Lib.hid (And.intro hCA hia); clear hCA hia) | (refine wpList_contVar rfl rfl w8.heap.size rfl ?_) | (refine wpList_storeFresh (w := w8) rfl 37 _ _ rfl w8.heap.size rfl CA rfl rfl HCA.out.2.1 HCA.out.2.2.2.1 HCA.out.2.2.2.2 ?_) | fail)
       obtain ⟨w9, hw9⟩ : ∃ x, x = w8.alloc (.cells CA 37) := ⟨_, rfl⟩
       obtain ⟨g8, hg8⟩ : ∃ g, g = w8.heap.size := ⟨_, rfl⟩
       rw [← hw9, ← hg8, HMM.out.2.2.2, ← HMM.out.2.2.1]
       have hb9 : Below w8.heap.size w8 w9 := by rw [hw9]; exact (bel1 _ _).1
       have hk9 : w9.heap[g8]? = some (.cells CA 37) := by rw [hw9, hg8]; exact heap_alloc_new _ _
       have h9 : Below W.heap.size W w9 := H8.out.1.trans (hb9.mono H8.out.1.size)
       have H9 := Lib.hid (And.intro h9 (And.intro hk9 (And.intro hb9 hg8)))
       clear hw9 hg8 hb9 hk9 h9
       have hkl := HMM.out.2.2.1
       have hk40 : k ≤ 40 := by rw [hkl]; exact HMM.out.2.1
       have h29 : ∀ wz, Below w9.heap.size w9 wz → wz.cell? ⟨g8, 0, none⟩ = some (.int .i64 (lastC M).k) := fun wz hz => by
         have e := (hz.block g8 (Array.getElem?_eq_some_iff.1 H9.out.2.1).1).trans H9.out.2.1
         rw [cell_of_row _ _ 0 _ _ _ e, HCA.out.1]; rfl
       have H29 := Lib.hid h29
       clear h29 hkl
       rcases Nat.eq_zero_or_pos k with hk0 | hk0
       · subst hk0
         have hM0 : M = [] := List.length_eq_zero_iff.1 HMM.out.2.2.1.symm
         have hc0 := H29.out w9 (Below.refl _ _)
         rw [hM0, show (lastC []).k = 0 from rfl] at hc0
         clear hM0
         simp only [Nat.zero_sub]
         go_wp2
         refine wp_loop_rounds 1 ?_
         rw [rounds_succ]
         go_wp2
         first | go_ret | go_ret2 | (refine bodyPost_ret (results_tmp rfl _ _ _) rfl ?_)
         have h9 := H9.out.1
         exact ⟨by kernel_rfl, HWW.out.trans (h9.mono HWW.out.size)⟩
       · obtain ⟨kk, rfl⟩ : ∃ kk, k = kk + 1 := ⟨k - 1, by omega⟩
         simp only [Nat.add_sub_cancel]
         obtain ⟨m0, hk0', hm0, hm0m, hlast⟩ := last_mem HMM.out.2.2.1.symm
         have hwit := fun (wz : World) (hz : Below w9.heap.size w9 wz) => (H8.out.1.trans (H9.out.2.2.1.mono H8.out.1.size)).trans (hz.mono H9.out.1.size)
         have hid6 : ∀ wz, Below w9.heap.size w9 wz → ∀ j (hj : j < M.length), ∃ b o, A6 = some ⟨b, o, none⟩ ∧ wz.rangeAt b (o + j * 2) M[j].id.cs := fun wz hz j hj => by
           obtain ⟨b, o, e, hg, hr⟩ := (own_ikG H6.out.2 rfl).at_ j (by simpa [idsW] using hj)
           have e2 : (idsW M)[j]'(by simpa [idsW] using hj) = M[j].id := by simp [idsW]
           rw [e2] at hr
           have h68 := H7.out.2.1.trans ((H8.out.2.1.trans ((H9.out.2.2.1.trans (hz.mono H9.out.2.2.1.size)).mono H8.out.2.1.size)).mono H7.out.2.1.size)
           exact ⟨b, o, e, fun i v hv => (World.cell?_of_block (a := ⟨b, o + j * 2 + i, none⟩) (h68.block b hg.2)).trans (hr i v hv)⟩
         have hid7 : ∀ wz, Below w9.heap.size w9 wz → ∀ j (hj : j < M.length), ∃ b o, A7 = some ⟨b, o, none⟩ ∧ wz.rangeAt b (o + j * 2) M[j].id.cs := fun wz hz j hj => by
           obtain ⟨b, o, e, hg, hr⟩ := (own_ikG H7.out.2.2 rfl).at_ j (by simpa [idsW] using hj)
           have e2 : (idsW M)[j]'(by simpa [idsW] using hj) = M[j].id := by simp [idsW]
           rw [e2] at hr
           have h78 := H8.out.2.1.trans ((H9.out.2.2.1.trans (hz.mono H9.out.2.2.1.size)).mono H8.out.2.1.size)
           exact ⟨b, o, e, fun i v hv => (World.cell?_of_block (a := ⟨b, o + j * 2 + i, none⟩) (h78.block b hg.2)).trans (hr i v hv)⟩
         have hot : ∀ wz, Below w9.heap.size w9 wz → ∀ j (hj : j + 1 < M.length), ∃ b o, Ao8 = some ⟨b, o, none⟩ ∧ wz.rangeAt b (o + j * 32) (M[j]'(by omega)).id.cs := fun wz hz j hj => by
           have hdl : j < M.dropLast.length := by rw [List.length_dropLast]; omega
           obtain ⟨b, o, e, hg, hr⟩ := H8.out.2.2.2.2.2.resolve_left (fun e => by rw [e] at hdl; exact absurd hdl (Nat.not_lt_zero _))
           obtain ⟨A', c', Ao', co', r1, -⟩ := hr j hdl
           have e2 : M.dropLast[j] = M[j]'(by omega) := by simp
           rw [e2] at r1
           have h8 := H9.out.2.2.1.trans (hz.mono H9.out.2.2.1.size)
           exact ⟨b, o, e, fun i v hv => (World.cell?_of_block (a := ⟨b, o + j * 32 + i, none⟩) (h8.block b hg.2)).trans (wr_id_range r1 i v hv)⟩
         have hcap : kk + 1 ≤ c6 ∧ c6 ≤ 9223372036854775807 ∧ kk + 1 ≤ c7 ∧ c7 ≤ 9223372036854775807 ∧ kk ≤ co8 ∧ co8 ≤ 9223372036854775807 := by
           have h1 := own_ikG H6.out.2 rfl
           have h2 := own_ikG H7.out.2.2 rfl
           have h3 := H8.out.2.2.2
           have e := HMM.out.2.2
           refine ⟨by have := h1.1; rw [e.2] at this; exact this, h1.2.1, by have := h2.1; rw [e.2] at this; exact this, h2.2.1, ?_, h3.2.1⟩
           have := h3.1
           rw [List.length_dropLast] at this
           omega
         obtain ⟨hq1, hq2, hq3, hq4, hq5, hq6⟩ := hcap
         have HID6 := Lib.hid hid6
         have HID7 := Lib.hid hid7
         have HOT := Lib.hid hot
         have HM0 := Lib.hid (And.intro hm0 (And.intro hm0m hlast))
         have hstart : AlJ w w9 (kk + 1) (.int .i64 0) w9 := ⟨0, Nat.zero_le _, fun _ => Nat.succ_pos _, rfl, Lib.hid (Below.refl _ _)⟩
         have HS2 := Lib.hid hstart
         have hmx : max (kk : Int) 0 = kk := by omega
         have HK0 := Lib.hid hk0'
         clear hwit hid6 hid7 hot hm0 hm0m hlast hstart hk0
         go_wp2
         clear hmx
         go_loopw [59] (fun iv wr => AlJ w w9 (kk + 1) iv wr) (fun iv _ => kk + 1 - (intOf iv).toNat)
         case atStart => exact HS2.out
         case round =>
          obtain ⟨i, hik, hik2, rfl, hR⟩ := hrel
          have hi := hik2 (Nat.succ_pos _)
          have hiI : (i : Int) < (kk : Int) + 1 := by omega
          have hi0 : (0 : Int) ≤ i := by omega
          have hiM : i < M.length := by have := HMM.out.2.2.1; omega
          obtain ⟨b6, o6, hA6, hr6⟩ := HID6.out wr hR.out i hiM
          obtain ⟨gx, hgx⟩ : ∃ b, b = wr.heap.size := ⟨_, rfl⟩
          obtain ⟨x, hx⟩ : ∃ x, x = M[i].id := ⟨_, rfl⟩
          rw [← hx] at hr6
          obtain ⟨w10, hw10⟩ : ∃ w10, w10 = wr.alloc (.cells #[.int .i64 x.a, .int .i64 x.n] 28) := ⟨_, rfl⟩
          have hb10 : Below wr.heap.size wr w10 := by rw [hw10]; exact (bel1 _ _).1
          have hk10 : w10.heap[gx]? = some (.cells #[.int .i64 x.a, .int .i64 x.n] 28) := by rw [hw10, hgx]; exact heap_alloc_new _ _
          have h9z : Below w9.heap.size w9 w10 := hR.out.trans (hb10.mono hR.out.size)
          have hxr : ∀ wz, Below w10.heap.size w10 wz → wz.rangeAt gx 0 x.cs := fun wz hz => ik_range ((hz.block gx (Array.getElem?_eq_some_iff.1 hk10).1).trans hk10)
          obtain ⟨b7, o7, hA7, -⟩ := HID7.out w10 h9z i hiM
          have hr7 : ∀ wz, Below w10.heap.size w10 wz → wz.rangeAt b7 (o7 + i * 2) x.cs := fun wz hz => by
            obtain ⟨b, o, e, hr⟩ := HID7.out wz (h9z.trans (hz.mono h9z.size)) i hiM
            rw [hA7] at e
            simp only [Option.some.injEq, Addr.mk.injEq, and_true] at e
            obtain ⟨rfl, rfl⟩ := e
            rw [hx]; exact hr
          have HXR := Lib.hid hxr
          have HR7 := Lib.hid hr7
          have HR6 := Lib.hid hr6
          have HX0 := Lib.hid hx
          have HW10 := Lib.hid (And.intro hw10 (And.intro hgx h9z))
          clear hr6 hw10 hb10 hk10 h9z hxr hr7 hx hgx
          subst hA6
          subst hA7
          go_upto_region 18 with (first | (refine wpList_mid rfl 28 _ rfl b6 (o6 + i * 2) rfl [.int .i64 x.a, .int .i64 x.n] _ HR6.out ikUnd rfl (HIL.out _ _) ?_) | fail)
          rw [← HW10.out.1, ← HW10.out.2.1]
          by_cases hik3 : i < kk
          · obtain ⟨bo, oo, hAo, -⟩ := HOT.out w10 HW10.out.2.2 i (by have := HMM.out.2.2.1; omega)
            have hro : ∀ wz, Below w10.heap.size w10 wz → wz.rangeAt bo (oo + i * 32) x.cs := fun wz hz => by
              obtain ⟨b, o, e, hr⟩ := HOT.out wz (HW10.out.2.2.trans (hz.mono HW10.out.2.2.size)) i (by have := HMM.out.2.2.1; omega)
              rw [hAo] at e
              simp only [Option.some.injEq, Addr.mk.injEq, and_true] at e
              obtain ⟨rfl, rfl⟩ := e
              rw [HX0.out]; exact hr
            have HRO := Lib.hid hro
            have hlt : decide ((i : Int) < (kk : Int)) = true := decide_eq_true (by omega)
            have HLT := Lib.hid hlt
            clear hro hlt
            subst hAo
            refine wp_region_held_drew (S := fun wx => Below w10.heap.size w10 wx) (by kernel_rfl) (Below.refl _ _).drew (fun hHeld => ?_)
            refine wpAnyH_take (i := 0) (v := (.slice (some ⟨b7, o7, none⟩) (kk + 1) c7)) rfl (by kernel_rfl) (by kernel_rfl) (by kernel_rfl) (fun _ _ _ h => h) (Or.inl ⟨by kernel_rfl, fun _ hS => by kernel_rfl⟩) hHeld ?_
            (try simp only [Act.put, List.getElem_toArray, List.getElem_cons_succ, List.getElem_cons_zero, List.setIfInBounds_toArray, List.set_cons_zero, List.set_cons_succ])
            refine wpAnyH_take (i := 1) (v := (.int .i64 (i : Nat))) rfl (by kernel_rfl) (by kernel_rfl) (by kernel_rfl) (fun _ _ _ h => h) (Or.inl ⟨by kernel_rfl, fun _ hS => by kernel_rfl⟩) hHeld ?_
            (try simp only [Act.put, List.getElem_toArray, List.getElem_cons_succ, List.getElem_cons_zero, List.setIfInBounds_toArray, List.set_cons_zero, List.set_cons_succ])
            refine wpAnyH_take (i := 2) (v := (.pointer (some ⟨b7, o7 + i * 2, none⟩))) rfl (by kernel_rfl) (by kernel_rfl) (by kernel_rfl) (fun _ _ _ h => h) (Or.inl ⟨by kernel_rfl, fun _ hS => ix_atIo _ _ rfl b7 o7 (kk + 1) c7 i rfl rfl (by omega)⟩) hHeld ?_
            (try simp only [Act.put, List.getElem_toArray, List.getElem_cons_succ, List.getElem_cons_zero, List.setIfInBounds_toArray, List.set_cons_zero, List.set_cons_succ])
            refine wpAnyH_take (i := 3) (v := .agg x.cs.toArray) rfl (by kernel_rfl) (by kernel_rfl) (by kernel_rfl) (fun _ _ _ h => h) (yieldsIf_load_mid (by kernel_rfl) 28 _ rfl b7 (o7 + i * 2) rfl x.cs _ (fun _ hS => HR7.out _ hS) ikUnd rfl (HIK.out _)) hHeld ?_
            (try simp only [Act.put, List.getElem_toArray, List.getElem_cons_succ, List.getElem_cons_zero, List.setIfInBounds_toArray, List.set_cons_zero, List.set_cons_succ])
            refine wpAnyH_take (i := 4) (v := .agg x.cs.toArray) rfl (by kernel_rfl) (by kernel_rfl) (by kernel_rfl) (fun _ _ _ h => h) (yieldsIf_load_mid (by kernel_rfl) 28 _ rfl gx 0 rfl x.cs _ (fun _ hS => HXR.out _ hS) ikUnd rfl (HIK.out _)) hHeld ?_
            (try simp only [Act.put, List.getElem_toArray, List.getElem_cons_succ, List.getElem_cons_zero, List.setIfInBounds_toArray, List.set_cons_zero, List.set_cons_succ])
            refine wpAnyH_take (i := 5) (v := (.bool false)) rfl (by kernel_rfl) (by kernel_rfl) (by kernel_rfl) (fun _ _ _ h => h) (Or.inl ⟨by kernel_rfl, fun _ hS => ik_ne_run _ _ rfl x x rfl rfl (by simp)⟩) hHeld ?_
            (try simp only [Act.put, List.getElem_toArray, List.getElem_cons_succ, List.getElem_cons_zero, List.setIfInBounds_toArray, List.set_cons_zero, List.set_cons_succ])
            refine wpAnyH_take (i := 6) (v := (.bool false)) rfl (by kernel_rfl) (by kernel_rfl) (by kernel_rfl) (fun _ _ _ h => h) (Or.inl ⟨by kernel_rfl, fun _ hS => by kernel_rfl⟩) hHeld ?_
            (try simp only [Act.put, List.getElem_toArray, List.getElem_cons_succ, List.getElem_cons_zero, List.setIfInBounds_toArray, List.set_cons_zero, List.set_cons_succ])
            refine wpAnyH_take (i := 7) (v := (.int .i64 (i : Nat))) rfl (by kernel_rfl) (by kernel_rfl) (by kernel_rfl) (fun _ _ _ h => h) (Or.inl ⟨by kernel_rfl, fun _ hS => by kernel_rfl⟩) hHeld ?_
            (try simp only [Act.put, List.getElem_toArray, List.getElem_cons_succ, List.getElem_cons_zero, List.setIfInBounds_toArray, List.set_cons_zero, List.set_cons_succ])
            refine wpAnyH_take (i := 8) (v := (.slice (some ⟨bo, oo, none⟩) kk co8)) rfl (by kernel_rfl) (by kernel_rfl) (by kernel_rfl) (fun _ _ _ h => h) (Or.inl ⟨by kernel_rfl, fun _ hS => by kernel_rfl⟩) hHeld ?_
            (try simp only [Act.put, List.getElem_toArray, List.getElem_cons_succ, List.getElem_cons_zero, List.setIfInBounds_toArray, List.set_cons_zero, List.set_cons_succ])
            refine wpAnyH_take (i := 9) (v := (.int .i64 (kk : Nat))) rfl (by kernel_rfl) (by kernel_rfl) (by kernel_rfl) (fun _ _ _ h => h) (Or.inl ⟨by kernel_rfl, fun _ hS => by kernel_rfl⟩) hHeld ?_
            (try simp only [Act.put, List.getElem_toArray, List.getElem_cons_succ, List.getElem_cons_zero, List.setIfInBounds_toArray, List.set_cons_zero, List.set_cons_succ])
            refine wpAnyH_take (i := 10) (v := (.bool true)) rfl (by kernel_rfl) (by kernel_rfl) (by kernel_rfl) (fun _ _ _ h => h) (Or.inl ⟨by kernel_rfl, fun _ hS => lss_run _ _ rfl rfl rfl HLT.out⟩) hHeld ?_
            (try simp only [Act.put, List.getElem_toArray, List.getElem_cons_succ, List.getElem_cons_zero, List.setIfInBounds_toArray, List.set_cons_zero, List.set_cons_succ])
            refine wpAnyH_take (i := 11) (v := (.bool true)) rfl (by kernel_rfl) (by kernel_rfl) (by kernel_rfl) (fun _ _ _ h => h) (Or.inl ⟨by kernel_rfl, fun _ hS => by kernel_rfl⟩) hHeld ?_
            (try simp only [Act.put, List.getElem_toArray, List.getElem_cons_succ, List.getElem_cons_zero, List.setIfInBounds_toArray, List.set_cons_zero, List.set_cons_succ])
            refine wpAnyH_take (i := 12) (v := (.slice (some ⟨bo, oo, none⟩) kk co8)) rfl (by kernel_rfl) (by kernel_rfl) (by kernel_rfl) (fun _ _ _ h => h) (Or.inl ⟨by kernel_rfl, fun _ hS => by kernel_rfl⟩) hHeld ?_
            (try simp only [Act.put, List.getElem_toArray, List.getElem_cons_succ, List.getElem_cons_zero, List.setIfInBounds_toArray, List.set_cons_zero, List.set_cons_succ])
            refine wpAnyH_take (i := 13) (v := (.int .i64 (i : Nat))) rfl (by kernel_rfl) (by kernel_rfl) (by kernel_rfl) (fun _ _ _ h => h) (Or.inl ⟨by kernel_rfl, fun _ hS => by kernel_rfl⟩) hHeld ?_
            (try simp only [Act.put, List.getElem_toArray, List.getElem_cons_succ, List.getElem_cons_zero, List.setIfInBounds_toArray, List.set_cons_zero, List.set_cons_succ])
            refine wpAnyH_take (i := 14) (v := (.pointer (some ⟨bo, oo + i * 32, none⟩))) rfl (by kernel_rfl) (by kernel_rfl) (by kernel_rfl) (fun _ _ _ h => h) (Or.inl ⟨by kernel_rfl, fun _ hS => ix_atWo _ _ rfl bo oo kk co8 i rfl rfl hik3⟩) hHeld ?_
            (try simp only [Act.put, List.getElem_toArray, List.getElem_cons_succ, List.getElem_cons_zero, List.setIfInBounds_toArray, List.set_cons_zero, List.set_cons_succ])
            refine wpAnyH_take (i := 15) (v := (.pointer (some ⟨bo, oo + i * 32, none⟩))) rfl (by kernel_rfl) (by kernel_rfl) (by kernel_rfl) (fun _ _ _ h => h) (Or.inl ⟨by kernel_rfl, fun _ hS => by kernel_rfl⟩) hHeld ?_
            (try simp only [Act.put, List.getElem_toArray, List.getElem_cons_succ, List.getElem_cons_zero, List.setIfInBounds_toArray, List.set_cons_zero, List.set_cons_succ])
            refine wpAnyH_take (i := 16) (v := .agg x.cs.toArray) rfl (by kernel_rfl) (by kernel_rfl) (by kernel_rfl) (fun _ _ _ h => h) (yieldsIf_load_mid (by kernel_rfl) 28 _ rfl bo (oo + i * 32) rfl x.cs _ (fun _ hS => HRO.out _ hS) ikUnd rfl (HIK.out _)) hHeld ?_
            (try simp only [Act.put, List.getElem_toArray, List.getElem_cons_succ, List.getElem_cons_zero, List.setIfInBounds_toArray, List.set_cons_zero, List.set_cons_succ])
            refine wpAnyH_take (i := 17) (v := .agg x.cs.toArray) rfl (by kernel_rfl) (by kernel_rfl) (by kernel_rfl) (fun _ _ _ h => h) (yieldsIf_load_mid (by kernel_rfl) 28 _ rfl gx 0 rfl x.cs _ (fun _ hS => HXR.out _ hS) ikUnd rfl (HIK.out _)) hHeld ?_
            (try simp only [Act.put, List.getElem_toArray, List.getElem_cons_succ, List.getElem_cons_zero, List.setIfInBounds_toArray, List.set_cons_zero, List.set_cons_succ])
            refine wpAnyH_take (i := 18) (v := (.bool false)) rfl (by kernel_rfl) (by kernel_rfl) (by kernel_rfl) (fun _ _ _ h => h) (Or.inl ⟨by kernel_rfl, fun _ hS => ik_ne_run _ _ rfl x x rfl rfl (by simp)⟩) hHeld ?_
            (try simp only [Act.put, List.getElem_toArray, List.getElem_cons_succ, List.getElem_cons_zero, List.setIfInBounds_toArray, List.set_cons_zero, List.set_cons_succ])
            refine wpAnyH_take (i := 19) (v := (.bool false)) rfl (by kernel_rfl) (by kernel_rfl) (by kernel_rfl) (fun _ _ _ h => h) (Or.inl ⟨by kernel_rfl, fun _ hS => by kernel_rfl⟩) hHeld ?_
            (try simp only [Act.put, List.getElem_toArray, List.getElem_cons_succ, List.getElem_cons_zero, List.setIfInBounds_toArray, List.set_cons_zero, List.set_cons_succ])
            refine wpAnyH_take (i := 20) (v := (.bool false)) rfl (by kernel_rfl) (by kernel_rfl) (by kernel_rfl) (fun _ _ _ h => h) (Or.inl ⟨by kernel_rfl, fun _ hS => by kernel_rfl⟩) hHeld ?_
            (try simp only [Act.put, List.getElem_toArray, List.getElem_cons_succ, List.getElem_cons_zero, List.setIfInBounds_toArray, List.set_cons_zero, List.set_cons_succ])
            have HE := Lib.hid hHeld
            refine wpAnyH_done (by kernel_rfl) ?_ _
            clear hHeld
            have hne : ((i : Int) == (kk : Int)) = false := beq_eq_false_iff_ne.2 (by omega)
            go_upto_region 28 with (fail)
            clear hne
            go_wp2
            go_roundw
            case measure => simp [intOf]; omega
            case rel =>
              refine ⟨i + 1, by omega, fun _ => by omega, by go_num, Lib.hid ?_⟩
              exact HW10.out.2.2.trans (HE.out.mono HW10.out.2.2.size)
          · have hie : i = kk := by omega
            subst hie
            have hlt : decide ((i : Int) < (i : Int)) = false := by simp
            have HLT := Lib.hid hlt
            clear hlt
            refine wp_region_held_drew (S := fun wx => Below w10.heap.size w10 wx) (by kernel_rfl) (Below.refl _ _).drew (fun hHeld => ?_)
            refine wpAnyH_take (i := 0) (v := (.slice (some ⟨b7, o7, none⟩) (i + 1) c7)) rfl (by kernel_rfl) (by kernel_rfl) (by kernel_rfl) (fun _ _ _ h => h) (Or.inl ⟨by kernel_rfl, fun _ hS => by kernel_rfl⟩) hHeld ?_
            (try simp only [Act.put, List.getElem_toArray, List.getElem_cons_succ, List.getElem_cons_zero, List.setIfInBounds_toArray, List.set_cons_zero, List.set_cons_succ])
            refine wpAnyH_take (i := 1) (v := (.int .i64 (i : Nat))) rfl (by kernel_rfl) (by kernel_rfl) (by kernel_rfl) (fun _ _ _ h => h) (Or.inl ⟨by kernel_rfl, fun _ hS => by kernel_rfl⟩) hHeld ?_
            (try simp only [Act.put, List.getElem_toArray, List.getElem_cons_succ, List.getElem_cons_zero, List.setIfInBounds_toArray, List.set_cons_zero, List.set_cons_succ])
            refine wpAnyH_take (i := 2) (v := (.pointer (some ⟨b7, o7 + i * 2, none⟩))) rfl (by kernel_rfl) (by kernel_rfl) (by kernel_rfl) (fun _ _ _ h => h) (Or.inl ⟨by kernel_rfl, fun _ hS => ix_atIo _ _ rfl b7 o7 (i + 1) c7 i rfl rfl (by omega)⟩) hHeld ?_
            (try simp only [Act.put, List.getElem_toArray, List.getElem_cons_succ, List.getElem_cons_zero, List.setIfInBounds_toArray, List.set_cons_zero, List.set_cons_succ])
            refine wpAnyH_take (i := 3) (v := .agg x.cs.toArray) rfl (by kernel_rfl) (by kernel_rfl) (by kernel_rfl) (fun _ _ _ h => h) (yieldsIf_load_mid (by kernel_rfl) 28 _ rfl b7 (o7 + i * 2) rfl x.cs _ (fun _ hS => HR7.out _ hS) ikUnd rfl (HIK.out _)) hHeld ?_
            (try simp only [Act.put, List.getElem_toArray, List.getElem_cons_succ, List.getElem_cons_zero, List.setIfInBounds_toArray, List.set_cons_zero, List.set_cons_succ])
            refine wpAnyH_take (i := 4) (v := .agg x.cs.toArray) rfl (by kernel_rfl) (by kernel_rfl) (by kernel_rfl) (fun _ _ _ h => h) (yieldsIf_load_mid (by kernel_rfl) 28 _ rfl gx 0 rfl x.cs _ (fun _ hS => HXR.out _ hS) ikUnd rfl (HIK.out _)) hHeld ?_
            (try simp only [Act.put, List.getElem_toArray, List.getElem_cons_succ, List.getElem_cons_zero, List.setIfInBounds_toArray, List.set_cons_zero, List.set_cons_succ])
            refine wpAnyH_take (i := 5) (v := (.bool false)) rfl (by kernel_rfl) (by kernel_rfl) (by kernel_rfl) (fun _ _ _ h => h) (Or.inl ⟨by kernel_rfl, fun _ hS => ik_ne_run _ _ rfl x x rfl rfl (by simp)⟩) hHeld ?_
            (try simp only [Act.put, List.getElem_toArray, List.getElem_cons_succ, List.getElem_cons_zero, List.setIfInBounds_toArray, List.set_cons_zero, List.set_cons_succ])
            refine wpAnyH_take (i := 6) (v := (.bool false)) rfl (by kernel_rfl) (by kernel_rfl) (by kernel_rfl) (fun _ _ _ h => h) (Or.inl ⟨by kernel_rfl, fun _ hS => by kernel_rfl⟩) hHeld ?_
            (try simp only [Act.put, List.getElem_toArray, List.getElem_cons_succ, List.getElem_cons_zero, List.setIfInBounds_toArray, List.set_cons_zero, List.set_cons_succ])
            refine wpAnyH_take (i := 7) (v := (.int .i64 (i : Nat))) rfl (by kernel_rfl) (by kernel_rfl) (by kernel_rfl) (fun _ _ _ h => h) (Or.inl ⟨by kernel_rfl, fun _ hS => by kernel_rfl⟩) hHeld ?_
            (try simp only [Act.put, List.getElem_toArray, List.getElem_cons_succ, List.getElem_cons_zero, List.setIfInBounds_toArray, List.set_cons_zero, List.set_cons_succ])
            refine wpAnyH_take (i := 8) (v := (.slice Ao8 i co8)) rfl (by kernel_rfl) (by kernel_rfl) (by kernel_rfl) (fun _ _ _ h => h) (Or.inl ⟨by kernel_rfl, fun _ hS => by kernel_rfl⟩) hHeld ?_
            (try simp only [Act.put, List.getElem_toArray, List.getElem_cons_succ, List.getElem_cons_zero, List.setIfInBounds_toArray, List.set_cons_zero, List.set_cons_succ])
            refine wpAnyH_take (i := 9) (v := (.int .i64 (i : Nat))) rfl (by kernel_rfl) (by kernel_rfl) (by kernel_rfl) (fun _ _ _ h => h) (Or.inl ⟨by kernel_rfl, fun _ hS => by kernel_rfl⟩) hHeld ?_
            (try simp only [Act.put, List.getElem_toArray, List.getElem_cons_succ, List.getElem_cons_zero, List.setIfInBounds_toArray, List.set_cons_zero, List.set_cons_succ])
            refine wpAnyH_take (i := 10) (v := (.bool false)) rfl (by kernel_rfl) (by kernel_rfl) (by kernel_rfl) (fun _ _ _ h => h) (Or.inl ⟨by kernel_rfl, fun _ hS => lss_run _ _ rfl rfl rfl HLT.out⟩) hHeld ?_
            (try simp only [Act.put, List.getElem_toArray, List.getElem_cons_succ, List.getElem_cons_zero, List.setIfInBounds_toArray, List.set_cons_zero, List.set_cons_succ])
            refine wpAnyH_take (i := 11) (v := (.bool false)) rfl (by kernel_rfl) (by kernel_rfl) (by kernel_rfl) (fun _ _ _ h => h) (Or.inl ⟨by kernel_rfl, fun _ hS => by kernel_rfl⟩) hHeld ?_
            (try simp only [Act.put, List.getElem_toArray, List.getElem_cons_succ, List.getElem_cons_zero, List.setIfInBounds_toArray, List.set_cons_zero, List.set_cons_succ])
            refine wpAnyH_take (i := 12) (v := undef) rfl (by kernel_rfl) (by kernel_rfl) (by kernel_rfl) (fun _ _ _ h => h) (Or.inr ⟨by kernel_rfl, rfl⟩) hHeld ?_
            (try simp only [Act.put, List.getElem_toArray, List.getElem_cons_succ, List.getElem_cons_zero, List.setIfInBounds_toArray, List.set_cons_zero, List.set_cons_succ])
            refine wpAnyH_take (i := 13) (v := undef) rfl (by kernel_rfl) (by kernel_rfl) (by kernel_rfl) (fun _ _ _ h => h) (Or.inr ⟨by kernel_rfl, rfl⟩) hHeld ?_
            (try simp only [Act.put, List.getElem_toArray, List.getElem_cons_succ, List.getElem_cons_zero, List.setIfInBounds_toArray, List.set_cons_zero, List.set_cons_succ])
            refine wpAnyH_take (i := 14) (v := undef) rfl (by kernel_rfl) (by kernel_rfl) (by kernel_rfl) (fun _ _ _ h => h) (Or.inr ⟨by kernel_rfl, rfl⟩) hHeld ?_
            (try simp only [Act.put, List.getElem_toArray, List.getElem_cons_succ, List.getElem_cons_zero, List.setIfInBounds_toArray, List.set_cons_zero, List.set_cons_succ])
            refine wpAnyH_take (i := 15) (v := undef) rfl (by kernel_rfl) (by kernel_rfl) (by kernel_rfl) (fun _ _ _ h => h) (Or.inr ⟨by kernel_rfl, rfl⟩) hHeld ?_
            (try simp only [Act.put, List.getElem_toArray, List.getElem_cons_succ, List.getElem_cons_zero, List.setIfInBounds_toArray, List.set_cons_zero, List.set_cons_succ])
            refine wpAnyH_take (i := 16) (v := undef) rfl (by kernel_rfl) (by kernel_rfl) (by kernel_rfl) (fun _ _ _ h => h) (Or.inr ⟨by kernel_rfl, rfl⟩) hHeld ?_
            (try simp only [Act.put, List.getElem_toArray, List.getElem_cons_succ, List.getElem_cons_zero, List.setIfInBounds_toArray, List.set_cons_zero, List.set_cons_succ])
            refine wpAnyH_take (i := 17) (v := undef) rfl (by kernel_rfl) (by kernel_rfl) (by kernel_rfl) (fun _ _ _ h => h) (Or.inr ⟨by kernel_rfl, rfl⟩) hHeld ?_
            (try simp only [Act.put, List.getElem_toArray, List.getElem_cons_succ, List.getElem_cons_zero, List.setIfInBounds_toArray, List.set_cons_zero, List.set_cons_succ])
            refine wpAnyH_take (i := 18) (v := undef) rfl (by kernel_rfl) (by kernel_rfl) (by kernel_rfl) (fun _ _ _ h => h) (Or.inr ⟨by kernel_rfl, rfl⟩) hHeld ?_
            (try simp only [Act.put, List.getElem_toArray, List.getElem_cons_succ, List.getElem_cons_zero, List.setIfInBounds_toArray, List.set_cons_zero, List.set_cons_succ])
            refine wpAnyH_take (i := 19) (v := (.bool false)) rfl (by kernel_rfl) (by kernel_rfl) (by kernel_rfl) (fun _ _ _ h => h) (Or.inl ⟨by kernel_rfl, fun _ hS => by kernel_rfl⟩) hHeld ?_
            (try simp only [Act.put, List.getElem_toArray, List.getElem_cons_succ, List.getElem_cons_zero, List.setIfInBounds_toArray, List.set_cons_zero, List.set_cons_succ])
            refine wpAnyH_take (i := 20) (v := (.bool false)) rfl (by kernel_rfl) (by kernel_rfl) (by kernel_rfl) (fun _ _ _ h => h) (Or.inl ⟨by kernel_rfl, fun _ hS => by kernel_rfl⟩) hHeld ?_
            (try simp only [Act.put, List.getElem_toArray, List.getElem_cons_succ, List.getElem_cons_zero, List.setIfInBounds_toArray, List.set_cons_zero, List.set_cons_succ])
            obtain ⟨wB, hwB⟩ : ∃ wB, wB = w10.drew := ⟨_, rfl⟩
            have hBB : Below w10.heap.size w10 wB := by rw [hwB]; exact (Below.refl _ _).drew
            refine wpAnyH_done (by kernel_rfl) ?_ _
            rw [← hwB]
            have HBB := Lib.hid hBB
            clear hHeld hwB hBB
            have heq : ((i : Int) == (i : Int)) = true := by simp
            have hs3 : AlK wB l x n (.int .i64 0) wB := ⟨0, Nat.zero_le _, rfl, Lib.hid ⟨Below.refl _ _, fun j _ h => absurd h (Nat.not_lt_zero _)⟩⟩
            have HS3 := Lib.hid hs3
            clear hs3
            go_wp2
            clear heq
            have hB9 : Below w9.heap.size w9 wB := HW10.out.2.2.trans (HBB.out.mono HW10.out.2.2.size)
            have HB9 := Lib.hid hB9
            clear hB9
            go_loopw [92] (fun iv wr => AlK wB l x n iv wr) (fun iv _ => n - (intOf iv).toNat)
            case atStart => exact HS3.out
            case round =>
             obtain ⟨t, htn, rfl, hR3⟩ := hrel
             have HXZ : Hid (x = m0.id) := Lib.hid (by rw [HX0.out, HM0.out.1])
             by_cases ht : t < n
             · have htI : (t : Int) < (n : Int) := by omega
               have ht0 : (0 : Int) ≤ t := by omega
               have hil : t < l.length := by rw [← HN.out]; exact ht
               have h9r : Below w9.heap.size w9 wr := HB9.out.trans (hR3.out.1.mono HB9.out.size)
               have hbw : Below w.heap.size w wr := HWW.out.trans ((H9.out.1.trans (h9r.mono H9.out.1.size)).mono HWW.out.size)
               obtain ⟨q, o, hA, A', c', Ao, co, hrg, hsl, hio⟩ := HROW.out wr hbw t hil
               subst hA
               obtain ⟨m, hm⟩ : ∃ m, m = l[t] := ⟨_, rfl⟩
               rw [← hm] at hrg hsl hio
               have hmin := HOK.out m (by rw [hm]; exact List.getElem_mem hil)
               obtain ⟨CW, hCW⟩ : ∃ C, C = wrA m A' c' Ao co := ⟨_, rfl⟩
               obtain ⟨gb, hgb⟩ : ∃ b, b = wr.heap.size := ⟨_, rfl⟩
               obtain ⟨w5, hw5⟩ : ∃ w5, w5 = wr.alloc (.cells CW 46) := ⟨_, rfl⟩
               have hb5 : Below wr.heap.size wr w5 := by rw [hw5]; exact (bel1 _ _).1
               have hk5 : w5.heap[gb]? = some (.cells CW 46) := by rw [hw5, hgb]; exact heap_alloc_new _ _
               have hic := rw_info m A' c' Ao co
               have h1w := wrA_one m A' c' Ao co
               have hzs : (wrA zWr none 0 none 0).size = (wrA m A' c' Ao co).size := rfl
               have hws : w.heap.size ≤ wr.heap.size := Below.size hbw
               have hsl5 : SlAt w5 wr.heap.size A' c' m.x.t.l := (hsl.more hws).below hb5
               have hio5 : IkG w5 (fun k => k < wr.heap.size) Ao co m.o := (hio.mono (fun k hk => Nat.lt_of_lt_of_le hk hws)).below hb5
               rw [← hCW] at hrg hic h1w hzs
               have HX := Lib.hid (And.intro hrg (And.intro hic (And.intro h1w (And.intro hzs (And.intro hk5 (And.intro hb5 (And.intro hsl5 hio5)))))))
               have HMIN := Lib.hid hmin
               have HW5 := Lib.hid hw5
               have HGB := Lib.hid hgb
               have HM := Lib.hid hm
               have HCW := Lib.hid hCW
               clear hrg hic h1w hzs hk5 hb5 hsl5 hio5 hmin hw5 hgb hm hCW hsl hio hws
               have hrr := wr_rows (by rw [← HCW.out]; exact HX.out.2.2.2.2.1)
               have hri := rright18_c m.x w5 wr.heap.size A' c' HMIN.out.2.1 HMIN.out.2.2.1 HX.out.2.2.2.2.2.2.1 HX.out.2.2.2.2.2.1.size HMIN.out.2.2.2.1
               have hsm := fun (wz : World) (hz : Below w5.heap.size w5 wz) => rcsame_c (lastC M) m.x wz wz.heap.size A8 A' c8 c' (by rw [HM0.out.2.2]; exact lastok HMM.out.1 H40.out.1 HOK.out HM0.out.2.1) ((H8.out.2.2.1.at_ (B := w8.heap.size) (fun _ _ h => h.2)).below ((H9.out.2.2.1.trans ((h9r.trans ((HX.out.2.2.2.2.2.1.trans (hz.mono HX.out.2.2.2.2.2.1.size)).mono h9r.size)).mono H9.out.2.2.1.size))) |>.more (Nat.le_trans H9.out.2.2.1.size (Nat.le_trans h9r.size (Nat.le_trans HX.out.2.2.2.2.2.1.size hz.size)))) HMIN.out.2.2.1 ((HX.out.2.2.2.2.2.2.1.below (hz.mono HX.out.2.2.2.2.2.1.size)).more (Nat.le_trans HX.out.2.2.2.2.2.1.size hz.size)) (Nat.le_refl _)
               obtain ⟨CX, hCX⟩ : ∃ C, C = contA m.x A' c' := ⟨_, rfl⟩
               unfold contV at hsm hri
               rw [← hCX] at hri hsm
               rw [← HCA.out.1] at hsm
               have hbox : ∀ wz, Below w5.heap.size w5 wz → wz.rangeAt gb 0 m.id.cs ∧ wz.rangeAt gb 2 CX.toList := fun wz hz => by
                 have e := wr_rows (by rw [← HCW.out]; exact (hz.block gb (Array.getElem?_eq_some_iff.1 HX.out.2.2.2.2.1).1).trans HX.out.2.2.2.2.1)
                 exact ⟨e.1, by rw [hCX]; exact e.2.1⟩
               have hx5 : ∀ wz, Below w5.heap.size w5 wz → wz.rangeAt gx 0 x.cs ∧ wz.rangeAt g8 0 CA.toList := fun wz hz => by
                 have h1 := HBB.out.trans ((hR3.out.1.trans ((HX.out.2.2.2.2.2.1.trans (hz.mono HX.out.2.2.2.2.2.1.size)).mono hR3.out.1.size)).mono HBB.out.size)
                 have h2 := h9r.trans ((HX.out.2.2.2.2.2.1.trans (hz.mono HX.out.2.2.2.2.2.1.size)).mono h9r.size)
                 exact ⟨HXR.out wz h1, row_range_ ((h2.block g8 (Array.getElem?_eq_some_iff.1 H9.out.2.1).1).trans H9.out.2.1) _ _ (fun j v hv => by rw [Nat.zero_add, ← Array.getElem?_toList]; exact hv)⟩
               have HRI := Lib.hid hri
               have HSM := Lib.hid hsm
               have HBOX := Lib.hid hbox
               have HX5 := Lib.hid hx5
               have HCX := Lib.hid (show (Tryz.prog.info? 37).map (·.size) = some CX.toList.length from by rw [hCX]; exact infC)
               have hfin : ∀ wz, Below w5.heap.size w5 wz → Below w.heap.size w wz := fun wz hz => hbw.trans ((HX.out.2.2.2.2.2.1.trans (hz.mono HX.out.2.2.2.2.2.1.size)).mono hbw.size)
               have HFIN := Lib.hid hfin
               clear hri hsm hbox hx5 hCX hrr hfin hbw h9r
               go_upto_region 24 with (first | (refine wpList_mid rfl 46 _ rfl q (o + t * 32) rfl CW.toList _ HX.out.1 undRw rfl HX.out.2.1.2 ?_; simp only [Array.toArray_toList]) | (refine wpList_rwVar rfl rfl wr.heap.size rfl ?_) | (refine wpList_storeFresh (w := wr) rfl 46 _ _ rfl wr.heap.size rfl CW rfl rfl HX.out.2.1.1 HX.out.2.2.2.1 HX.out.2.2.1 ?_) | fail)
               rw [← HW5.out, ← HGB.out]
               have q1 := HBOX.out w5 (Below.refl _ _)
               have q2 := HX5.out w5 (Below.refl _ _)
               have q11 : w5.rangeAt gb 0 [.int .i64 m.id.a, .int .i64 m.id.n] := q1.1
               have q21 : w5.rangeAt gx 0 [.int .i64 x.a, .int .i64 x.n] := q2.1
               have hdec : decide (m.id = x) = decide (m.id.a = x.a ∧ m.id.n = x.n) := ik_dec _ _
               have hze := fun w => eqI w m.id.a m.id.n x.a x.n
               rw [← hdec] at hze
               clear hdec
               cases hid : decide (m.id = x) with
               | false =>
                 rw [hid] at hze
                 have HID := Lib.hid hid
                 clear hid
                 go_wp2_with (first | (refine wpList_mid rfl 28 _ rfl gb 0 rfl [.int .i64 m.id.a, .int .i64 m.id.n] _ q11 ikUnd rfl (HIL.out _ _) ?_) | (refine wpList_mid rfl 28 _ rfl gx 0 rfl [.int .i64 x.a, .int .i64 x.n] _ q21 ikUnd rfl (HIL.out _ _) ?_) | fail)
                 go_roundw
                 case measure => simp [intOf]; omega
                 case rel =>
                   refine ⟨t + 1, by omega, by go_num, Lib.hid ⟨hR3.out.1.trans (HX.out.2.2.2.2.2.1.mono hR3.out.1.size), fun j hj hjt e => ?_⟩⟩
                   by_cases hjt' : j = t
                   · subst hjt'
                     rw [← HM.out] at e
                     exact absurd e (of_decide_eq_false HID.out)
                   · exact hR3.out.2 j hj (by omega) e
               | true =>
                 rw [hid] at hze
                 have HID := Lib.hid hid
                 clear hid
                 cases hrt : rightC m.x with
                 | false =>
                   rw [hrt] at HRI
                   have HRT := Lib.hid hrt
                   clear hrt
                   go_wp2_with (first | (refine wpList_mid rfl 28 _ rfl gb 0 rfl [.int .i64 m.id.a, .int .i64 m.id.n] _ q11 ikUnd rfl (HIL.out _ _) ?_) | (refine wpList_mid rfl 28 _ rfl gx 0 rfl [.int .i64 x.a, .int .i64 x.n] _ q21 ikUnd rfl (HIL.out _ _) ?_) | (refine wpList_mid rfl 37 _ rfl gb 2 rfl CX.toList _ q1.2 undC rfl HCX.out ?_; simp only [Array.toArray_toList]) | (go_at_call 11; refine HRI.out.mono ?_; rintro e w6 ⟨rfl, hb6⟩; have HB6 := Lib.hid hb6; clear hb6) | fail)
                   go_roundw
                   case measure => simp [intOf]; omega
                   case rel =>
                     refine ⟨t + 1, by omega, by go_num, Lib.hid ⟨hR3.out.1.trans ((HX.out.2.2.2.2.2.1.trans (HB6.out.mono HX.out.2.2.2.2.2.1.size)).mono hR3.out.1.size), fun j hj hjt e => ?_⟩⟩
                     by_cases hjt' : j = t
                     · subst hjt'
                       rw [← HM.out]; exact HRT.out
                     · exact hR3.out.2 j hj (by omega) e
                 | true =>
                   rw [hrt] at HRI
                   have hsame : lastC M = m.x := by
                     rw [HM0.out.2.2, HM.out]
                     refine alone_first (by have := H40.out.1; omega) (by rw [← HMM.out.1]; exact HM0.out.2.1) hil ?_ (by rw [← HM.out]; exact hrt) (fun j hj hjt e => hR3.out.2 j hj hjt (by rw [e, HXZ.out]))
                     rw [← HM.out, of_decide_eq_true HID.out, HXZ.out]
                   rw [← hsame, sameC_self] at HSM
                   clear hrt hsame
                   go_upto_region 25 with (first | (refine wpList_mid rfl 28 _ rfl gb 0 rfl [.int .i64 m.id.a, .int .i64 m.id.n] _ q11 ikUnd rfl (HIL.out _ _) ?_) | (refine wpList_mid rfl 28 _ rfl gx 0 rfl [.int .i64 x.a, .int .i64 x.n] _ q21 ikUnd rfl (HIL.out _ _) ?_) | (refine wpList_mid rfl 37 _ rfl gb 2 rfl CX.toList _ q1.2 undC rfl HCX.out ?_; simp only [Array.toArray_toList]) | (go_at_call 11; refine HRI.out.mono ?_; rintro e w6 ⟨rfl, hb6⟩; have HB6 := Lib.hid hb6; clear hb6) | fail)
                   have p1 := HBOX.out w6 HB6.out
                   have p2 := HX5.out w6 HB6.out
                   go_wp2_with (first | (refine wpList_mid rfl 37 _ rfl g8 0 rfl CA.toList _ p2.2 undC rfl HCA.out.2.2.1 ?_; simp only [Array.toArray_toList]) | (refine wpList_mid rfl 37 _ rfl gb 2 rfl CX.toList _ p1.2 undC rfl HCX.out ?_; simp only [Array.toArray_toList]) | (go_at_call 18; refine (HSM.out w6 HB6.out).mono ?_; rintro e w7' ⟨rfl, hb7⟩; have HB7 := Lib.hid hb7; clear hb7) | fail)
                   first | go_ret | go_ret2 | (refine bodyPost_ret (results_tmp rfl _ _ _) rfl ?_)
                   exact ⟨by kernel_rfl, HFIN.out _ (HB6.out.trans (HB7.out.mono HB6.out.size))⟩
             · exfalso
               obtain ⟨j, hj, e1, e2⟩ := alone_some (l := l) (m := m0) (by have := H40.out.1; omega) (by rw [← HMM.out.1]; exact HM0.out.2.1)
               have := hR3.out.2 j hj (by have := HN.out; omega) (by rw [e1, HXZ.out])
               rw [e2] at this; cases this
end Go.Proofs.YtbiacjkkgddclaaGreat
