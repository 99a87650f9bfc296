/- The walk of the law TreeParts. -/
import Derived.Test.YtggpffipijoddaaDoorAwM
import Derived.Test.YtggpffipijoddaaDoorGtM
import Derived.Test.YtggpffipijoddaaDoorLbM
import Derived.Test.YtggpffipijoddaaDoorWkSz
import Derived.Test.YtggpffipijoddaaDoorCzM
namespace Go.Proofs.YtggpffipijoddaaDoor
open Go.RowKit Go.Shelf

/-- a node below, as the law's loop meets it. -/
structure KidOf (w : World) (A : Option Addr) (i : Nat) (k : Tr) (cs : List Value) : Prop where
  len : cs.length = 22
  row : ∀ wx, Below w.heap.size w wx → ∃ kb ko, A = some ⟨kb, ko, none⟩ ∧ wx.rangeAt kb (ko + i * 22) cs ∧ wx.cell? ⟨kb, ko + i * 22, none⟩ = some (.int .i64 k.d.kind)
  check : ∀ wx, Below w.heap.size w wx → Calls Tryd.prog 10 #[.agg cs.toArray] wx fun e w' => e = .returned (.int .i64 (checkI k)) ∧ Below wx.heap.size wx w'
  code : ∀ wx, Below w.heap.size w wx → Calls Tryd.prog 11 #[.agg cs.toArray] wx fun e w' => e = .returned (.tuple #[S (codeT k), .int .i64 (checkI k)]) ∧ Below wx.heap.size wx w'
theorem short_kid {t k : Tr} (h : Short t) (hk : k ∈ t.l) : Short k := by
  obtain ⟨d, l⟩ := t
  exact fun x hx => h x (nodes_kid hk x hx)
theorem kid_of {w : World} {A : Option Addr} {c : Nat} {t : Tr} (hs : SlAt w w.heap.size A c t.l) (hz : t.size ≤ 1048576) (hsh : Short t) (ht : Tab w) (i : Nat) (hi : i < t.l.length) : ∃ cs, KidOf w A i t.l[i] cs := by
  obtain ⟨kb, ko, hA, hn⟩ := hs.at_ i hi
  obtain ⟨h1, h2, kA, kc, h3, h4⟩ := hn.open_
  obtain ⟨cs, e1, e2, -⟩ := h3.range (fun _ _ => rfl)
  have hkz : t.l[i].size ≤ 1048576 := by
    have := (mem_sizes (List.getElem_mem hi)).1
    have e1 : t.size = Tr.sizes t.l + 1 := by cases t; simp [Tr.size, Tr.l]
    omega
  refine ⟨cs, e2, fun wx hx => ?_, fun wx hx => ?_, fun wx hx => ?_⟩
  · obtain ⟨cs', e3, e4, e5⟩ := h3.range (w' := wx) (fun p hp => hx.cell (by omega))
    obtain rfl : cs' = cs := List.toArray_inj (e3.trans e1.symm)
    exact ⟨kb, ko, hA, e5, ((hx.cell (p := ⟨kb, ko + i * 22, none⟩) h1).trans (h3 0 (by omega))).trans rfl⟩
  · rw [e1]; exact check_c wx w.heap.size hx.size t.l[i] kA kc h2 (h4.below hx) (by omega)
  · rw [e1]; exact code_c wx w.heap.size hx.size t.l[i] kA kc h2 (h4.below hx) (by omega) (short_kid hsh (List.getElem_mem hi)) (tab_below ht hx)
theorem codes_step {l : List Tr} {i : Nat} (hi : i < l.length) : (l.take (i + 1)).flatMap partKid = (l.take i).flatMap partKid ++ partKid l[i] := by
  rw [List.take_succ_eq_append_getElem hi, List.flatMap_append]; simp
theorem codes_take_le {l : List Tr} (i : Nat) : ((l.take i).flatMap partKid).length ≤ (l.flatMap partKid).length := by
  conv => rhs; rw [← List.take_append_drop i l]
  rw [List.flatMap_append, List.length_append]; omega

set_option maxRecDepth 100000 in
set_option maxHeartbeats 4000000 in
theorem treeParts_walk (t : Tr) (w : World) (A : Option Addr) (c : Nat) (hd : t.d.ok) (hs : SlAt w w.heap.size A c t.l) (hz : t.size ≤ 1048576) (hsh : Short t) (ht : Tab w) :
    Calls Tryd.prog 3 #[nodeV t.d A t.l.length c] w fun e w' => e = .returned (.bool true) ∧ Below w.heap.size w w' := by
  have hG := fun wx (hx : Below w.heap.size w wx) => great_c t wx w.heap.size A c hd (hs.below hx) hx.size hz
  have hC := fun wx (hx : Below w.heap.size w wx) => check_c wx w.heap.size hx.size t A c hd (hs.below hx) (by omega)
  have hK := kid_of hs hz hsh ht
  have hal64 : t.l.length ≤ 9223372036854775807 := by have := hs.1; have := hs.2.1; omega
  obtain ⟨N, hN⟩ : ∃ N, N = nodeA t.d A t.l.length c := ⟨_, rfl⟩
  have hNs : N.size = 22 := by rw [hN]; rfl
  have HNS := Lib.hid hNs
  have hc21 := (nodeA_all t.d A t.l.length c).2.2.2.2.2.2.2.2.2.2.2.2.2.2.2.2.2.2.2.2.2
  have hc0 := (nodeA_all t.d A t.l.length c).1
  rw [← hN] at hc21 hc0
  obtain ⟨al, hal⟩ : ∃ al, al = t.l.length := ⟨_, rfl⟩
  simp only [nodeV, ← hN] at hG hC ⊢
  rw [← hal] at hc21 hal64
  have hinf := infN
  rw [← hNs] at hinf
  obtain ⟨g, hg⟩ : ∃ g, g = greatB t := ⟨_, rfl⟩
  rw [← hg] at hG
  obtain ⟨ck, hck⟩ : ∃ ck, ck = checkI t := ⟨_, rfl⟩
  rw [← hck] at hC
  have HG := Lib.hid hG
  have HC := Lib.hid hC
  have HK := Lib.hid hK
  have HIN := Lib.hid hinf
  have HT := Lib.hid ht
  have HN := Lib.hid hN
  have HD := Lib.hid hd
  have HS := Lib.hid hs
  have HSH := Lib.hid hsh
  have HCK := Lib.hid hck
  have HAL := Lib.hid hal
  obtain ⟨W0, hW0⟩ : ∃ W0, W0 = w.alloc (.cells N 34) := ⟨_, rfl⟩
  have hb0 : Below w.heap.size w W0 := by rw [hW0]; exact (Below.refl _ w).alloc (Nat.le_refl _) _
  have hsz0 : w.heap.size + 1 ≤ W0.heap.size := by rw [hW0]; simp
  have hk0 : W0.heap[w.heap.size]? = some (.cells N 34) := by rw [hW0]; exact heap_alloc_new _ _
  have HW0 := Lib.hid hW0
  have hmono : ∀ wx, Below W0.heap.size W0 wx → Below w.heap.size w wx ∧ wx.heap[w.heap.size]? = some (.cells N 34) ∧ wx.cell? ⟨w.heap.size, 0, none⟩ = some (.int .i64 t.d.kind) ∧ wx.cell? ⟨w.heap.size, 21, none⟩ = some (.slice A al c) := fun wx hx => by
    have hk := (hx.block _ (by omega)).trans hk0
    exact ⟨hb0.trans (hx.mono (by omega)), hk, by rw [Lib.cell_of_heap hk]; exact hc0, by rw [Lib.cell_of_heap hk]; exact hc21⟩
  have HM := Lib.hid hmono
  clear hG hC hK hinf hNs hN hal hd hs hsh hg hck ht hk0 hc21 hc0 hmono hW0
  go_enter Tryd.func3, Tryd.ntmps3
  have e16 := cut_from 16 partsC
  obtain ⟨C, hC⟩ : ∃ C, C = fromRegion 16 partsC := ⟨_, rfl⟩
  rw [← hC] at e16
  have HC16 := Lib.hid hC
  clear hC
  change Code.wp Tryd.prog partsC _ _ _
  rw [← e16]
  clear e16
  conv => arg 2; whnf; arg 2; whnf; arg 2; whnf; arg 2; whnf; arg 2; whnf; arg 2; whnf; arg 2; whnf
  go_wp2_with (fail)
  rw [← HW0.out]
  refine (awake_c W0 (tab_below HT.out hb0)).mono ?_
  rintro e w1 ⟨rfl, hb1⟩
  obtain ⟨hw1, hr1, -, -⟩ := HM.out w1 hb1
  cases g
  case true =>
    as_aux_lemma =>
    go_wp2_with (first | (refine wpList_row rfl 34 _ rfl w.heap.size rfl 34 N (0, 0) _ hr1 undN rfl HIN.out ?_) | (go_at_call 9; refine (HG.out _ hw1).mono ?_; rintro e w2 ⟨rfl, hb2⟩))
    go_ret
    exact ⟨rfl, hw1.trans (hb2.mono hw1.size)⟩
  case false =>
  go_wp2_with (first | (refine wpList_row rfl 34 _ rfl w.heap.size rfl 34 N (0, 0) _ hr1 undN rfl HIN.out ?_) | fail)
  refine (HG.out _ hw1).mono ?_
  rintro e w2 ⟨rfl, hb2⟩
  have hb2 : Below W0.heap.size W0 w2 := hb1.trans (hb2.mono hb1.size)
  obtain ⟨hw2, hr2, -, -⟩ := HM.out w2 hb2
  by_cases hck0 : ck = 0
  case neg =>
    as_aux_lemma =>
    have hq : (ck != 0) = true := by simpa using hck0
    clear hck0
    go_wp2_with (first | (refine wpList_row rfl 34 _ rfl w.heap.size rfl 34 N (0, 0) _ hr2 undN rfl HIN.out ?_) | (go_at_call 10; refine (HC.out _ hw2).mono ?_; rintro e w3 ⟨rfl, hb3⟩))
    go_ret
    exact ⟨rfl, hw2.trans (hb3.mono hw2.size)⟩
  case pos =>
  subst hck0
  go_wp2_with (first | (refine wpList_row rfl 34 _ rfl w.heap.size rfl 34 N (0, 0) _ hr2 undN rfl HIN.out ?_) | fail)
  refine (HC.out _ hw2).mono ?_
  rintro e w3 ⟨rfl, hb3⟩
  have hb3 : Below W0.heap.size W0 w3 := hb2.trans (hb3.mono hb2.size)
  clear hw1 hr1 hw2 hr2 hb1 hb2
  have hlen : ((t.l.flatMap partKid).length) ≤ 2000000000 := by
    have h1 := parts_le HCK.out.symm
    have h2 := code_le (SlAt.all_ok HD.out HS.out) HSH.out
    have h3 := ((check_iff t).1 HCK.out.symm).1
    omega
  go_wp2
  go_loopw [3, 4] (fun s i wr => ∃ k : Nat, k ≤ al ∧ i = .int .i64 k ∧ s = S ((t.l.take k).flatMap partKid) ∧ Below W0.heap.size W0 wr) (fun _ i _ => al - (intOf i).toNat)
  case atStart => exact ⟨0, Nat.zero_le _, rfl, rfl, hb3⟩
  case round =>
    obtain ⟨k, hk, rfl, rfl, hbr⟩ := hrel
    obtain ⟨hwr, hrr, h0, h21⟩ := HM.out wr hbr
    by_cases hlt : k < al
    · as_aux_lemma =>
      have hkl : k < t.l.length := by have := HAL.out; omega
      obtain ⟨cs, hkid⟩ := HK.out k hkl
      obtain ⟨kb, ko, hA, hrg, hkc⟩ := hkid.row wr hwr
      have hst := codes_step hkl
      have hle := codes_take_le (l := t.l) (k + 1)
      rw [hst, List.length_append] at hle
      have hkc9 := fun h8 h9 => kid_check HCK.out.symm (List.getElem_mem hkl) h8 h9
      obtain ⟨acc, hacc⟩ : ∃ acc, acc = (t.l.take k).flatMap partKid := ⟨_, rfl⟩
      have hcode := hkid.code
      have hcheck := hkid.check
      have HROW := Lib.hid hkid.row
      have hpk : partKid t.l[k] = if t.l[k].d.kind = 9 then [88, 59] else codeT t.l[k] := rfl
      rw [hpk] at hst hle
      rw [← hacc] at hst hle ⊢
      obtain ⟨kd, hkd⟩ : ∃ kd, kd = t.l[k].d.kind := ⟨_, rfl⟩
      rw [← hkd] at hst hle hkc hkc9
      obtain ⟨ct, hct⟩ : ∃ ct, ct = codeT t.l[k] := ⟨_, rfl⟩
      obtain ⟨ci, hci⟩ : ∃ ci, ci = checkI t.l[k] := ⟨_, rfl⟩
      rw [← hct] at hst hle hcode
      rw [← hci] at hcode hcheck hkc9
      have hinf : (Tryd.prog.info? 34).map (·.size) = some cs.length := by rw [hkid.len]; exact infN
      have HIC := Lib.hid hinf
      have HRG := Lib.hid hrg
      have HST := Lib.hid hst
      have HCO := Lib.hid hcode
      have HCH := Lib.hid hcheck
      have HK9 := Lib.hid hkc9
      subst hA
      clear hkid hrg hst hcode hcheck hkc9 hpk hacc hkd hct hci hinf
      have hlt0 : (0 : Int) ≤ k := by omega
      have hlt2 : (k : Int) < al := by omega
      by_cases h9 : kd = 9
      · as_aux_lemma =>
        subst h9
        rw [if_pos rfl] at hle
        have hn : ¬ 9223372036854775807 < acc.length + 2 := by simp only [List.length_cons, List.length_nil] at hle; omega
        clear hle
        go_wp2
        go_roundw
        case rel => exact ⟨k + 1, by omega, by go_num, by rw [HST.out, if_pos rfl]; exact congrArg Value.string (ba_append acc [88, 59]), hbr⟩
        case measure => simp [intOf]; omega
      · have hq9 : (kd == 9) = false := by simpa using h9
        rw [if_neg h9] at hle
        have hn : ¬ 9223372036854775807 < acc.length + ct.length := by omega
        obtain ⟨tk, htk⟩ : ∃ tk, tk = t.d.kind := ⟨_, rfl⟩
        have hk9' := HK9.out
        rw [← htk] at h0 hk9'
        have HST' : Hid ((t.l.take (k + 1)).flatMap partKid = acc ++ ct) := Lib.hid (by rw [HST.out, if_neg h9])
        clear htk hle HST HK9
        by_cases h8 : tk = 8
        · as_aux_lemma =>
          subst h8
          clear hk9' h9
          go_wp2_with (first | (refine wpList_mid rfl 34 _ rfl kb (ko + k * 22) rfl cs _ HRG.out undN rfl HIC.out ?_) | (go_at_call 11; refine (HCO.out _ hwr).mono ?_; rintro e w4 ⟨rfl, hb4⟩))
          go_roundw
          case rel => exact ⟨k + 1, by omega, by go_num, by rw [HST'.out]; exact congrArg Value.string (ba_append acc ct), hbr.trans (hb4.mono hbr.size)⟩
          case measure => simp [intOf]; omega
        · as_aux_lemma =>
          have hci0 := hk9' h8 h9
          subst hci0
          have hq8 : (tk != 8) = true := by simpa using h8
          clear hk9' h9 h8
          go_wp2_with (first | (refine wpList_mid rfl 34 _ rfl kb (ko + k * 22) rfl cs _ HRG.out undN rfl HIC.out ?_) | fail)
          refine (HCH.out _ hwr).mono ?_
          rintro e w4 ⟨rfl, hb4⟩
          have hb4 : Below W0.heap.size W0 w4 := hbr.trans (hb4.mono hbr.size)
          obtain ⟨hw4, hr4, h04, h214⟩ := HM.out w4 hb4
          obtain ⟨kb', ko', hA', hrg4, -⟩ := HROW.out w4 hw4
          simp only [Option.some.injEq, Addr.mk.injEq, and_true] at hA'
          obtain ⟨rfl, rfl⟩ := hA'
          have HRG4 := Lib.hid hrg4
          clear hrg4 HRG
          go_wp2_with (first | (refine wpList_mid rfl 34 _ rfl kb (ko + k * 22) rfl cs _ HRG4.out undN rfl HIC.out ?_) | (go_at_call 11; refine (HCO.out _ hw4).mono ?_; rintro e w5 ⟨rfl, hb5⟩))
          go_roundw
          case rel => exact ⟨k + 1, by omega, by go_num, by rw [HST'.out]; exact congrArg Value.string (ba_append acc ct), hb4.trans (hb5.mono hb4.size)⟩
          case measure => simp [intOf]; omega
    · as_aux_lemma =>
      have hge : ¬ (k : Int) < al := by omega
      have hkk : k = t.l.length := by have := HAL.out; omega
      rw [show t.l.take k = t.l from by rw [hkk]; exact List.take_length]
      have hco := code_good wr w.heap.size hwr.size t A c HD.out (HS.out.below hwr) (by omega) HCK.out.symm HSH.out (tab_below HT.out hwr)
      have hsuf := fun h8 => parts_suffix (t := t) HCK.out.symm h8
      have hlp := parts_le (t := t) HCK.out.symm
      have hcl := code_le (SlAt.all_ok HD.out HS.out) HSH.out
      have hs256 := ((check_iff t).1 HCK.out.symm).1
      obtain ⟨acc, hacc⟩ : ∃ acc, acc = t.l.flatMap partKid := ⟨_, rfl⟩
      rw [← hacc] at hsuf hlp ⊢
      obtain ⟨hdc, hhdc⟩ : ∃ hdc, hdc = codeOne t.d t.l.length := ⟨_, rfl⟩
      rw [← hhdc] at hsuf
      obtain ⟨cd, hcd⟩ : ∃ cd, cd = codeL t := ⟨_, rfl⟩
      rw [← hcd] at hsuf hlp hcl hco
      simp only [nodeV, ← HN.out] at hco
      have HCO := Lib.hid hco
      have HSUF := Lib.hid hsuf
      have HCD := Lib.hid hcd
      obtain ⟨tk, htk⟩ : ∃ tk, tk = t.d.kind := ⟨_, rfl⟩
      rw [← htk] at h0
      have HTK := Lib.hid htk
      clear hco hsuf hacc hhdc hcd htk hkk hlen
      go_wp2_with (first | (refine wpList_row rfl 34 _ rfl w.heap.size rfl 34 N (0, 0) _ hrr undN rfl HIN.out ?_) | fail)
      refine HCO.out.mono ?_
      rintro e w4 ⟨rfl, hb4⟩
      have hb4 : Below W0.heap.size W0 w4 := hbr.trans (hb4.mono hbr.size)
      obtain ⟨hw4, hr4, h04, h214⟩ := HM.out w4 hb4
      rw [← HTK.out] at h04
      clear h0 h21 hrr hwr hbr
      go_wp2
      refine Code.wp_mono (Q := RetTrue w4) ?_ ?_
      · rintro e a w' ⟨rfl, hd', h2, hb5⟩
        refine bodyPost_ret (results_tmp rfl _ _ _) hd' ?_
        rw [h2]
        exact ⟨rfl, hw4.trans (hb5.mono hw4.size)⟩
      rw [HC16.out]
      have hns := HNS.out
      have hcal := fun o2 => call_in HN.out HD.out HS.out hw4 (by omega) HSH.out (tab_below HT.out hw4) o2
      have hsz := fun wx (hx : Below w4.heap.size w4 wx) => size_c wx w.heap.size (hw4.trans (hx.mono hw4.size)).size t A c HD.out (HS.out.below (hw4.trans (hx.mono hw4.size))) (by omega)
      have hdp := fun wx (hx : Below w4.heap.size w4 wx) => depth_c wx w.heap.size (hw4.trans (hx.mono hw4.size)).size t A c HD.out (HS.out.below (hw4.trans (hx.mono hw4.size))) (by omega)
      simp only [nodeV, ← HN.out] at hsz hdp
      have hci := call_facts (t := t) HCK.out.symm
      rw [← HCD.out] at hci
      exact parts_tail _ _ _ _ _ _ _ _ _ _ _ _ _ _ _ _ _ _ _ _ _ _ _ _ _ _ _ _ _ _ _ _ _ _ _ _ _ _ _ _ _ _ _ _ _ _ _ _ _ _ _ _ _ _ _ _ _ _ _ _ _ _ _ _ _ _ _ _ _ _ _ _ _ _ _ _ _ _ _ _ _ _ _ _ _ _ _ _ _ _ _ _ _ _ _ _ _ _ _ _ _ _ _ _ _ _ _ _ _ _ _ _ _ _ _ _ _ w.heap.size N w4 t.size t.depth acc cd (codeT (callT t)) (checkI (callT t)) tk hr4 h04 HNS (Lib.hid hsz) (Lib.hid hdp) (Lib.hid hcal) (Lib.hid hci) (by omega) hlp (Lib.hid fun h8 => ⟨hdc, HSUF.out (by rw [← HTK.out]; exact h8)⟩)
end Go.Proofs.YtggpffipijoddaaDoor
