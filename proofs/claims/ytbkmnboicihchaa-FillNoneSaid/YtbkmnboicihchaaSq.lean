/- The reference's Same: whole. -/
import Derived.Test.YtbkmnboicihchaaSr
import Derived.Outline
namespace Go.Proofs.Ytbkmnboicihchaa
set_option linter.unusedSimpArgs false
set_option linter.unusedVariables false
open Go.RowKit Go.Shelf

def RSame (w : World) (n : Nat) (l l' : List Tr) (A A' : Option Addr) (c c' : Nat) (i : Value) (wr : World) : Prop :=
  ∃ j : Nat, j ≤ n ∧ i = .int .i64 j ∧ samesB (l.take j) (l'.take j) = true ∧ wr.cell? ⟨w.heap.size, 21, none⟩ = some (.slice A n c) ∧ wr.cell? ⟨w.heap.size + 1, 21, none⟩ = some (.slice A' n c') ∧ w.heap.size + 2 ≤ wr.heap.size ∧ Below w.heap.size w wr

set_option maxRecDepth 100000 in
set_option maxHeartbeats 4000000 in
theorem rsame_c (t : Tr) : ∀ (t' : Tr) (w : World) (B : Nat) (A A' : Option Addr) (c c' : Nat) (_ : t.d.ok) (_ : SlAt w B A c t.l) (_ : t'.d.ok) (_ : SlAt w B A' c' t'.l) (_ : B ≤ w.heap.size),
    Calls Try.prog 18 #[nodeV t.d A t.l.length c, nodeV t'.d A' t'.l.length c'] w fun e w' => e = .returned (.bool (sameB t t')) ∧ Below w.heap.size w w' := by
  induction t using Tr.ind with | _ d l ih => ?_
  rintro ⟨d', l'⟩ w B A A' c c' hd hs hd' hs' hB
  have IH := Lib.hid ih
  have HS := Lib.hid hs
  have HS' := Lib.hid hs'
  clear ih hd hs hd' hs'
  dsimp only [Tr.d, Tr.l] at HS HS' ⊢
  by_cases hne : d = d' ∧ l.length = l'.length
  case neg =>
    have : sameB (.mk d l) (.mk d' l') = false := by
      simp only [sameB, Bool.and_eq_false_iff]
      by_cases e : d = d'
      · right
        cases hh : samesB l l' with
        | false => rfl
        | true => exact absurd ⟨e, samesB_len hh⟩ hne
      · left; simpa using e
    rw [this]
    exact rsame_head w d d' A A' l.length c l'.length c' hne
  obtain ⟨rfl, hll⟩ := hne
  obtain ⟨n, hn⟩ : ∃ n, l.length = n := ⟨_, rfl⟩
  rw [← hll, hn]
  have HN := Lib.hid hn
  have HN' : Hid (l'.length = n) := hll.symm.trans hn
  have hres : sameB (.mk d l) (.mk d l') = samesB l l' := by simp [sameB]
  rw [hres]
  obtain ⟨r, hr⟩ : ∃ r, samesB l l' = r := ⟨_, rfl⟩
  rw [hr]
  have HR := Lib.hid hr
  have hsl : n ≤ c := hn ▸ HS.out.1
  have hsc := HS.out.2.1
  have hsl' : n ≤ c' := HN'.out ▸ HS'.out.1
  have hsc' := HS'.out.2.1
  clear hll hn hres hr
  obtain ⟨N, hN⟩ : ∃ N, N = nodeA d A n c := ⟨_, rfl⟩
  obtain ⟨N', hN'⟩ : ∃ N, N = nodeA d A' n c' := ⟨_, rfl⟩
  have hh := nodeA_all d A n c
  have hh' := nodeA_all d A' n c'
  rw [← hN] at hh
  rw [← hN'] at hh'
  rw [nodeV, nodeV, ← hN, ← hN']
  clear hN hN'
  obtain ⟨h0, h1, h2, h3, h4, h5, h6, h7, h8, h9, h10, h11, h12, h13, h14, h15, h16, h17, h18, h19, h20, h21⟩ := hh
  obtain ⟨h'0, h'1, h'2, h'3, h'4, h'5, h'6, h'7, h'8, h'9, h'10, h'11, h'12, h'13, h'14, h'15, h'16, h'17, h'18, h'19, h'20, h'21⟩ := hh'
  have r1 := fun w => eqV w d.v d.v
  rw [decide_eq_true rfl] at r1
  have r2 := fun w => eqA w d.a d.b d.a d.b
  rw [decide_eq_true ⟨rfl, rfl⟩] at r2
  have H21 := Lib.hid h21
  have H21' := Lib.hid h'21
  go_enter Try.func18, Try.ntmps18
  go_wp2
  clear h0 h1 h2 h3 h4 h5 h6 h7 h8 h9 h10 h11 h12 h13 h14 h15 h16 h17 h18 h19 h20 h21 h'0 h'1 h'2 h'3 h'4 h'5 h'6 h'7 h'8 h'9 h'10 h'11 h'12 h'13 h'14 h'15 h'16 h'17 h'18 h'19 h'20 h'21 r1 r2
  go_loopw [5] (fun i wr => RSame w n l l' A A' c c' i wr) (fun i _ => n - (intOf i).toNat)
  case atStart =>
    refine ⟨0, Nat.zero_le _, rfl, by simp [samesB], ?_, ?_, by simp, ?_⟩
    · exact (cell_of_row _ _ 21 _ _ _ ((heapOld _ _ _ (by simp)).trans (World.alloc_heap_new w _))).trans H21.out
    · have hblk := World.alloc_heap_new (w.alloc (.cells N 44)) (.cells N' 44)
      rw [World.size_alloc] at hblk
      exact (cell_of_row _ _ 21 _ _ _ hblk).trans H21'.out
    · exact ((Below.refl _ w).alloc (Nat.le_refl _) _).alloc (by simp) _
  case round =>
    obtain ⟨j, hj, rfl, hacc, hc, hc', hsz, hbel⟩ := hrel
    have HAC := Lib.hid hacc
    have HBE := Lib.hid hbel
    clear hacc hbel
    by_cases hlt : j < n
    · have hjl : j < l.length := by rw [HN.out]; exact hlt
      have hjl' : j < l'.length := by rw [HN'.out]; exact hlt
      obtain ⟨b2, o2, hA, hkn⟩ := HS.out.at_ j hjl
      obtain ⟨b3, o3, hA', hkn'⟩ := HS'.out.at_ j hjl'
      subst hA hA'
      obtain ⟨hkb, hkd, A2, c2, hkc, hks⟩ := hkn.open_
      obtain ⟨hkb', hkd', A3, c3, hkc', hks'⟩ := hkn'.open_
      have hbd : Below w.heap.size w wr.drew := HBE.out.drew
      have hkid := IH.out l[j] (List.getElem_mem hjl) l'[j] wr.drew B A2 A3 c2 c3 hkd (hks.below (hbd.mono hB)) hkd' (hks'.below (hbd.mono hB)) (by have := hbd.size; omega)
      obtain ⟨cs, hcs, hcl, hrg⟩ := hkc.range (w' := wr.drew) (fun p hp => hbd.cell (by omega))
      obtain ⟨cs', hcs', hcl', hrg'⟩ := hkc'.range (w' := wr.drew) (fun p hp => hbd.cell (by omega))
      rw [nodeV, nodeV, ← hcs, ← hcs'] at hkid
      have hinf := infN
      have hinf' := infN
      rw [← hcl] at hinf
      rw [← hcl'] at hinf'
      obtain ⟨rk, hrk⟩ : ∃ rk, sameB l[j] l'[j] = rk := ⟨_, rfl⟩
      rw [hrk] at hkid
      have HRG := Lib.hid hrg
      have HIN := Lib.hid hinf
      have HRG' := Lib.hid hrg'
      have HIN' := Lib.hid hinf'
      have HK := Lib.hid hkid
      have HRK := Lib.hid hrk
      have HBD := Lib.hid hbd
      have hj1 : (j : Int) < (n : Int) := by omega
      have hj0 : (0 : Int) ≤ (j : Int) := by omega
      clear hinf hrg hcl hcs hinf' hrg' hcl' hcs' hkid hrk hkn hkb hkd hkc hks hkn' hkb' hkd' hkc' hks' hbd
      have hbw : w.heap.size < wr.heap.size := by omega
      have hbw' : w.heap.size + 1 < wr.heap.size := by omega
      go_wp2
      refine wp_region_still_tail 10 (by kernel_rfl) (by kernel_rfl) ?_
      simp only [List.take_succ_cons, List.take_zero, List.drop_succ_cons, List.drop_zero]
      iterate 4 still_step
      refine still_mid rfl 44 _ rfl b2 (o2 + j * 22) rfl cs _ HRG.out undN rfl HIN.out ?_
      (try simp only [Act.put, List.setIfInBounds_toArray, List.set_cons_zero, List.set_cons_succ])
      iterate 4 still_step
      refine still_mid rfl 44 _ rfl b3 (o3 + j * 22) rfl cs' _ HRG'.out undN rfl HIN'.out ?_
      (try simp only [Act.put, List.setIfInBounds_toArray, List.set_cons_zero, List.set_cons_succ])
      refine wpStill_nil ?_
      change wpList _ _ _ _ _ wr.drew
      cases rk
      · go_wp2_with (go_at_call 18; refine HK.out.mono ?_; rintro e w2 ⟨rfl, hbe⟩)
        go_ret
        exact ⟨ret_bool (by rw [← HR.out]; exact (samesB_no hjl hjl' HRK.out).symm), HBD.out.trans (hbe.mono HBD.out.size)⟩
      · go_wp2_with (go_at_call 18; refine HK.out.mono ?_; rintro e w2 ⟨rfl, hbe⟩)
        go_roundw
        case measure => simp [intOf]; omega
        case rel =>
          exact ⟨j + 1, by omega, by go_num, (samesB_take_step hjl hjl' HAC.out).trans HRK.out, (hbe.cell (p := ⟨w.heap.size, 21, none⟩) (by simpa using hbw)).trans hc, (hbe.cell (p := ⟨w.heap.size + 1, 21, none⟩) (by simpa using hbw')).trans hc', by have := hbe.size; simp at this; omega, HBD.out.trans (hbe.mono HBD.out.size)⟩
    · obtain rfl : j = n := by omega
      go_wp2
      go_ret
      have h1 := HAC.out
      rw [show l.take j = l from by rw [← HN.out, List.take_length], show l'.take j = l' from by rw [← HN'.out, List.take_length]] at h1
      exact ⟨ret_bool (by rw [← HR.out, h1]), HBE.out⟩
end Go.Proofs.Ytbkmnboicihchaa
