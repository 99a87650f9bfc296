/- law 41: ScriptTexts: the walk. -/
import Derived.Test.YtlgfjacjcacmmaaGreatDoorKiM
namespace Go.Proofs.YtlgfjacjcacmmaaGreatDoor
set_option linter.unusedSimpArgs false
set_option linter.unusedVariables false
open Go Go.RowKit Go.Shelf Go.Sort Go.BigFrame

theorem undRs41 : Tryz.prog.underlying 31 = some (.struct (Tryz.prog.fieldsOf 31)) := by kernel_rfl

set_option maxRecDepth 100000 in
set_option maxHeartbeats 4000000 in
theorem texts41_c (s : Scr) (w : World) (A : Option Addr) (c : Nat) (hs : StpsAt w w.heap.size 50 A c s.steps) (hf : ∀ x ∈ s.steps, x.fit) (hi : i64 s.rows ∧ i64 s.cols ∧ i64 s.wr) (he : ErrS w) (ht : Tab w) :
    Calls Tryz.prog 4 #[.agg #[.int .i64 s.rows, .int .i64 s.cols, .int .i64 s.wr, .slice A s.steps.length c]] w fun e w' => e = .returned (.bool true) ∧ Below w.heap.size w w' := by
  obtain ⟨n, hn⟩ : ∃ n, s.steps.length = n := ⟨_, rfl⟩
  have hsl := hs.1
  have hsc := hs.2.1
  rw [hn] at hsl
  obtain ⟨b, hb⟩ : ∃ b, b = w.heap.size := ⟨_, rfl⟩
  obtain ⟨W, hW⟩ : ∃ W, W = w.alloc (.cells #[.int .i64 s.rows, .int .i64 s.cols, .int .i64 s.wr, .slice A n c] 31) := ⟨_, rfl⟩
  have hbW : Below w.heap.size w W := by rw [hW]; exact (Below.refl _ w).alloc (Nat.le_refl _) _
  have hkW : W.heap[b]? = some (.cells #[.int .i64 s.rows, .int .i64 s.cols, .int .i64 s.wr, .slice A n c] 31) := by rw [hW, hb]; exact heap_alloc_new w _
  have hzW : W.heap.size = b + 1 := by rw [hW, hb]; simp
  have HAW := Lib.hid (awake41_c W (he.below hbW) (tab_below ht hbW))
  have hGr := fun (wx : World) (hx : Below w.heap.size w wx) => great41_c s wx w.heap.size A c hx.size (hs.below hx) hf
  have hOf := fun (wx : World) (hx : Below w.heap.size w wx) (hlen : s.steps.length ≤ 1000) => of_c s wx w.heap.size A c hx.size (hs.below hx) hlen
  have hIS : (Tryz.prog.info? 31).map (·.size) = some (#[.int .i64 s.rows, .int .i64 s.cols, .int .i64 s.wr, .slice A n c] : Array Value).size := by kernel_rfl
  obtain ⟨r, hr⟩ : ∃ r, greatS s = r := ⟨_, rfl⟩
  rw [hn] at hGr hOf ⊢
  rw [hr] at hGr
  have HGR := Lib.hid hGr
  have HOF := Lib.hid hOf
  have HIS := Lib.hid hIS
  have HR := Lib.hid hr
  have HB := Lib.hid hb
  have HBW := Lib.hid hbW
  have HKW := Lib.hid hkW
  have HZW := Lib.hid hzW
  have HS := Lib.hid hs
  have HF := Lib.hid hf
  have HN := Lib.hid hn
  have HI := Lib.hid hi
  have HT := Lib.hid ht
  have HE := Lib.hid he
  clear hGr hOf hIS hr hbW hkW hzW hs hf hn hi ht he
  go_enter Tryz.func4, Tryz.ntmps4
  go_upto_region 1 with (fail)
  rw [← hW, ← hb]
  clear hW hb
  go_wp2_with fail
  refine HAW.out.mono ?_
  rintro e w1 ⟨rfl, hb1⟩
  have HB1 := Lib.hid (HBW.out.trans (hb1.mono HBW.out.size))
  have HK1 := Lib.hid ((hb1.block b (by rw [HZW.out]; omega)).trans HKW.out)
  clear hb1
  go_wp2_with (first | (refine wpList_row rfl 31 _ rfl b rfl 31 #[.int .i64 s.rows, .int .i64 s.cols, .int .i64 s.wr, .slice A n c] (0, 0) _ HK1.out undRs41 rfl HIS.out ?_) | fail)
  refine (HGR.out _ HB1.out).mono ?_
  rintro e w2 ⟨rfl, hb2⟩
  have HB2 := Lib.hid (HB1.out.trans (hb2.mono HB1.out.size))
  have HK2 := Lib.hid ((hb2.block b (Array.getElem?_eq_some_iff.1 HK1.out).1).trans HK1.out)
  clear hb2
  cases r with
  | true =>
    go_wp2
    go_ret
    exact ⟨by kernel_rfl, HB2.out⟩
  | false =>
    obtain ⟨hl250, -⟩ := great_small HR.out
    have hn250 : n ≤ 250 := by rw [← HN.out]; exact hl250
    go_wp2_with (first | (refine wpList_row rfl 31 _ rfl b rfl 31 #[.int .i64 s.rows, .int .i64 s.cols, .int .i64 s.wr, .slice A n c] (0, 0) _ HK2.out undRs41 rfl HIS.out ?_) | fail)
    refine (HOF.out _ HB2.out (by omega)).mono ?_
    rintro e w3 ⟨A', c', rfl, hs3, hb3⟩
    have HB3 := Lib.hid (HB2.out.trans (hb3.mono HB2.out.size))
    have HK3 := Lib.hid ((hb3.block b (Array.getElem?_eq_some_iff.1 HK2.out).1).trans HK2.out)
    have hsl3 := hs3.1
    have hsc3 := hs3.2.1
    rw [HN.out] at hsl3
    obtain ⟨b3, hb3'⟩ : ∃ x, x = w3.heap.size := ⟨_, rfl⟩
    obtain ⟨W4, hW4⟩ : ∃ x, x = w3.alloc (.cells #[.int .i64 s.rows, .int .i64 s.cols, .int .i64 s.wr, .slice A' n c'] 25) := ⟨_, rfl⟩
    have hb34 : Below w3.heap.size w3 W4 := by rw [hW4]; exact (Below.refl _ w3).alloc (Nat.le_refl _) _
    have HS4 := Lib.hid (hs3.below hb34)
    have HK4 := Lib.hid ((hb34.block b (Array.getElem?_eq_some_iff.1 HK3.out).1).trans HK3.out)
    have HK43 := Lib.hid (show W4.heap[b3]? = some (.cells #[.int .i64 s.rows, .int .i64 s.cols, .int .i64 s.wr, .slice A' n c'] 25) by rw [hW4, hb3']; exact heap_alloc_new w3 _)
    have HB4 := Lib.hid (HB3.out.trans (hb34.mono HB3.out.size))
    have HIS2 := Lib.hid (show ∀ v : Value, (Tryz.prog.info? 25).map (·.size) = some (#[.int .i64 s.rows, .int .i64 s.cols, .int .i64 s.wr, v] : Array Value).size from fun v => by kernel_rfl)
    have hT4 : Calls Tryz.prog 12 #[.agg #[.int .i64 s.rows, .int .i64 s.cols, .int .i64 s.wr, .slice A' n c']] W4 fun e w' => e = .returned (.tuple #[.string ⟨(textI s).toArray⟩, .int .i64 (if scrB s = true then 0 else 6)]) ∧ Below W4.heap.size W4 w' := by
      have := stext_c s W4 w3.heap.size A' c' hb34.size HS4.out HF.out HI.out (tab_below HT.out HB4.out)
      rw [HN.out] at this
      exact this
    have hRT := fun (wx : World) (hx : Below w.heap.size w wx) => rText_c s wx w.heap.size A c hx.size (HS.out.below hx) HF.out HI.out
    have hQ1 : ∀ (wx : World) (_ : Below W4.heap.size W4 wx) d os, Calls Tryz.prog 14 #[.agg #[.int .i64 s.rows, .int .i64 s.cols, .int .i64 s.wr, .slice A' n c']] (grow (redrawn wx d) os) fun e w'' => e = .returned (.bool (scrB s)) ∧ ∃ p : Regrown, w'' = grow (redrawn wx p.d) p.os := fun wx hx d os => by
      have hg := below_regrown wx d os
      have := sright_c s (grow (redrawn wx d) os) w3.heap.size A' c' (by have := hg.size; have := hx.size; have := hb34.size; omega) ((HS4.out.below (hx.mono hb34.size)).below (hg.mono (by have := hx.size; have := hb34.size; omega))) HF.out
      rw [HN.out] at this
      exact Calls.regrown_of this
    have hQ2 : ∀ (wx : World) (_ : Below w.heap.size w wx) d os, Calls Tryz.prog 15 #[.agg #[.int .i64 s.rows, .int .i64 s.cols, .int .i64 s.wr, .slice A n c]] (grow (redrawn wx d) os) fun e w'' => e = .returned (.bool (scrB s)) ∧ ∃ p : Regrown, w'' = grow (redrawn wx p.d) p.os := fun wx hx d os => by
      have hg := below_regrown wx d os
      have := rright_c s (grow (redrawn wx d) os) w.heap.size A c (by have := hg.size; have := hx.size; omega) ((HS.out.below hx).below (hg.mono hx.size)) HF.out
      rw [HN.out] at this
      exact Calls.regrown_of this
    rw [HN.out] at hRT
    obtain ⟨r, hr⟩ : ∃ r, scrB s = r := ⟨_, rfl⟩
    have hne : r = true → textI s = textS s := fun h => by unfold textI; rw [if_pos (hr.trans h)]
    have hpt : r = true → parseS (textS s) = (s, 0, 0) := fun h => parse_text (hr.trans h)
    have htl : r = true → (textS s).length ≤ 80300 := fun h => text_len (hr.trans h)
    rw [hr] at hT4 hRT
    simp only [hr] at hQ1 hQ2
    obtain ⟨tb, htb⟩ : ∃ x, (⟨(textI s).toArray⟩ : ByteArray) = x := ⟨_, rfl⟩
    have htd : tb.data.toList = textI s := by rw [← htb]
    have hpar : r = true → ∀ wx, Below w.heap.size w wx → Calls Tryz.prog 6 #[.string tb] wx (fun e w' => ∃ A8 c8, e = .returned (.tuple #[.agg #[.int .i64 s.rows, .int .i64 s.cols, .int .i64 s.wr, .slice A8 n c8], .int .i64 0, .int .i64 0]) ∧ StpsAt w' w'.heap.size 45 A8 c8 s.steps ∧ Below wx.heap.size wx w') := fun h wx hx => by
      have hz : tb.size ≤ 80300 := by
        have h1 := htl h
        rw [← htb, sizeP, hne h]
        exact h1
      have := parse_c tb (by omega) wx (HE.out.below hx) (tab_below HT.out hx)
      rw [htd, hne h, hpt h] at this
      refine this.mono ?_
      rintro e w' ⟨A8, c8, h, h2, -, hb⟩
      dsimp only at h h2
      rw [HN.out] at h
      exact ⟨A8, c8, h, h2, hb⟩
    obtain ⟨er, her⟩ : ∃ x : Int, (if r = true then (0 : Int) else 6) = x := ⟨_, rfl⟩
    rw [htb, her] at hT4
    simp only [S, htb, her] at hRT
    have HER := Lib.hid her
    clear her
    have HT4 := Lib.hid hT4
    have HRT := Lib.hid hRT
    have HQ1 := Lib.hid hQ1
    have HQ2 := Lib.hid hQ2
    have HPAR := Lib.hid hpar
    have e1 : (tb.toList == tb.toList) = true := by simp
    have e2 : (tb.toList != tb.toList) = false := by simp
    clear hs3 hb3 hb34 hl250 hT4 hRT hQ1 hQ2 hpar hne hpt htl htb htd hr
    go_upto_region 6 with (fail)
    rw [← hW4, ← hb3']
    clear hW4 hb3'
    go_wp2_with (first | (refine wpList_row rfl 25 _ rfl b3 rfl 25 #[.int .i64 s.rows, .int .i64 s.cols, .int .i64 s.wr, .slice A' n c'] (0, 0) _ HK43.out undSc rfl (HIS2.out _) ?_) | fail)
    refine HT4.out.mono ?_
    rintro e w5 ⟨rfl, hb5⟩
    have HB45 := Lib.hid hb5
    have HB5 := Lib.hid (HB4.out.trans (hb5.mono HB4.out.size))
    have HK5 := Lib.hid ((hb5.block b (Array.getElem?_eq_some_iff.1 HK4.out).1).trans HK4.out)
    have HK53 := Lib.hid ((hb5.block b3 (Array.getElem?_eq_some_iff.1 HK43.out).1).trans HK43.out)
    clear hb5 HT4
    go_wp2_with (first | (refine wpList_row rfl 31 _ rfl b rfl 31 #[.int .i64 s.rows, .int .i64 s.cols, .int .i64 s.wr, .slice A n c] (0, 0) _ HK5.out undRs41 rfl HIS.out ?_) | fail)
    refine (HRT.out _ HB5.out).mono ?_
    rintro e w6 ⟨rfl, hb6⟩
    have HB46 := Lib.hid (HB45.out.trans (hb6.mono HB45.out.size))
    have HB6 := Lib.hid (HB5.out.trans (hb6.mono HB5.out.size))
    have HK6 := Lib.hid ((hb6.block b (Array.getElem?_eq_some_iff.1 HK5.out).1).trans HK5.out)
    have HK63 := Lib.hid ((hb6.block b3 (Array.getElem?_eq_some_iff.1 HK53.out).1).trans HK53.out)
    have HC1 := Lib.hid (HQ1.out w6 HB46.out)
    have HC2 := Lib.hid (HQ2.out w6 HB6.out)
    clear hb6 HRT HQ1 HQ2
    cases r with
    | false =>
      obtain rfl : er = 6 := by rw [← HER.out]; rfl
      go_wp2_with fail
      refine wp_region_quiet_below (by kernel_rfl) (by kernel_rfl) ?_
      repeat (first
        | (go_big_quiet_want; refine quiet_row 25 _ rfl b3 rfl 25 #[.int .i64 s.rows, .int .i64 s.cols, .int .i64 s.wr, .slice A' n c'] (0, 0) _ HK63.out undSc rfl (HIS2.out _) ?_; simp only [Act.put, List.setIfInBounds_toArray, List.set_cons_zero, List.set_cons_succ]; go_big_quiet_on)
        | (go_big_quiet_want; refine quiet_row 31 _ rfl b rfl 31 #[.int .i64 s.rows, .int .i64 s.cols, .int .i64 s.wr, .slice A n c] (0, 0) _ HK6.out undRs41 rfl HIS.out ?_; simp only [Act.put, List.setIfInBounds_toArray, List.set_cons_zero, List.set_cons_succ]; go_big_quiet_on)
        | go_big_quiet_step (first | with_reducible exact HC1.out _ _ | with_reducible exact HC2.out _ _))
      refine wpQuiet_nil ?_
      rintro w7 ⟨⟨dq, osq⟩, hq7⟩
      have HB7 := Lib.hid (HB6.out.trans ((show Below w6.heap.size w6 w7 by rw [hq7]; exact below_regrown w6 dq osq).mono HB6.out.size))
      clear hq7
      go_wp2
      go_ret
      exact ⟨by kernel_rfl, HB7.out⟩
    | true =>
      obtain rfl : er = 0 := by rw [← HER.out]; rfl
      go_wp2_with fail
      refine wp_region_quiet_below (by kernel_rfl) (by kernel_rfl) ?_
      repeat (first
        | (go_big_quiet_want; refine quiet_row 25 _ rfl b3 rfl 25 #[.int .i64 s.rows, .int .i64 s.cols, .int .i64 s.wr, .slice A' n c'] (0, 0) _ HK63.out undSc rfl (HIS2.out _) ?_; simp only [Act.put, List.setIfInBounds_toArray, List.set_cons_zero, List.set_cons_succ]; go_big_quiet_on)
        | (go_big_quiet_want; refine quiet_row 31 _ rfl b rfl 31 #[.int .i64 s.rows, .int .i64 s.cols, .int .i64 s.wr, .slice A n c] (0, 0) _ HK6.out undRs41 rfl HIS.out ?_; simp only [Act.put, List.setIfInBounds_toArray, List.set_cons_zero, List.set_cons_succ]; go_big_quiet_on)
        | go_big_quiet_step (first | with_reducible exact HC1.out _ _ | with_reducible exact HC2.out _ _))
      refine wpQuiet_nil ?_
      rintro w7 ⟨⟨dq, osq⟩, hq7⟩
      have hb67 : Below w6.heap.size w6 w7 := by rw [hq7]; exact below_regrown w6 dq osq
      have HB7 := Lib.hid (HB6.out.trans (hb67.mono HB6.out.size))
      have HK7 := Lib.hid ((hb67.block b (Array.getElem?_eq_some_iff.1 HK6.out).1).trans HK6.out)
      clear hq7 hb67
      go_wp2_with fail
      refine (HPAR.out (by trivial) _ HB7.out).mono ?_
      rintro e w8 ⟨A8, c8, rfl, hs8, hb8⟩
      have HB8 := Lib.hid (HB7.out.trans (hb8.mono HB7.out.size))
      have HK8 := Lib.hid ((hb8.block b (Array.getElem?_eq_some_iff.1 HK7.out).1).trans HK7.out)
      go_wp2_with fail
      obtain ⟨b8, hb8'⟩ : ∃ x, x = w8.heap.size := ⟨_, rfl⟩
      obtain ⟨W9, hW9⟩ : ∃ x, x = w8.alloc (.cells #[.int .i64 s.rows, .int .i64 s.cols, .int .i64 s.wr, .slice A8 n c8] 25) := ⟨_, rfl⟩
      have hsl8 := hs8.1
      have hsc8 := hs8.2.1
      rw [HN.out] at hsl8
      have hb89 : Below w8.heap.size w8 W9 := by rw [hW9]; exact (Below.refl _ w8).alloc (Nat.le_refl _) _
      have HB9 := Lib.hid (HB8.out.trans (hb89.mono HB8.out.size))
      have hk9 := (hb89.block b (Array.getElem?_eq_some_iff.1 HK8.out).1).trans HK8.out
      have hk98 : W9.heap[b8]? = some (.cells #[.int .i64 s.rows, .int .i64 s.cols, .int .i64 s.wr, .slice A8 n c8] 25) := by rw [hW9, hb8']; exact heap_alloc_new w8 _
      have hs9 := hs8.below hb89
      have hBK : ∀ wx, Below W9.heap.size W9 wx → Calls Tryz.prog 9 #[.agg #[.int .i64 s.rows, .int .i64 s.cols, .int .i64 s.wr, .slice A8 n c8]] wx fun e w' => ∃ A' c', e = .returned (.agg #[.int .i64 s.rows, .int .i64 s.cols, .int .i64 s.wr, .slice A' n c']) ∧ Hid (StpsAt w' w'.heap.size 50 A' c' s.steps) ∧ Hid (Below w.heap.size w w') ∧ w'.cell? ⟨b, 0, none⟩ = some (.int .i64 s.rows) ∧ w'.cell? ⟨b, 1, none⟩ = some (.int .i64 s.cols) ∧ w'.cell? ⟨b, 2, none⟩ = some (.int .i64 s.wr) ∧ w'.cell? ⟨b, 3, none⟩ = some (.slice A n c) := fun wx hx => by
        have := back_c s wx w8.heap.size A8 c8 (by have := hb89.size; have := hx.size; omega) (hs9.below (hx.mono hb89.size)) (by rw [HN.out]; omega)
        rw [HN.out] at this
        refine this.mono ?_
        rintro e w' ⟨A', c', h1, h2, h3⟩
        have hb2 := HB9.out.trans (hx.mono HB9.out.size)
        have hkx := (h3.block b (by have := (Array.getElem?_eq_some_iff.1 hk9).1; have := hx.size; omega)).trans ((hx.block b (Array.getElem?_eq_some_iff.1 hk9).1).trans hk9)
        exact ⟨A', c', h1, Lib.hid h2, Lib.hid (hb2.trans (h3.mono hb2.size)), cell_of_row w' b 0 _ _ _ hkx, cell_of_row w' b 1 _ _ _ hkx, cell_of_row w' b 2 _ _ _ hkx, cell_of_row w' b 3 _ _ _ hkx⟩
      have hSM : ∀ A' c' wx, Hid (StpsAt wx wx.heap.size 50 A' c' s.steps) → Hid (Below w.heap.size w wx) → Calls Tryz.prog 8 #[.agg #[.int .i64 s.rows, .int .i64 s.cols, .int .i64 s.wr, .slice A' n c'], .agg #[.int .i64 s.rows, .int .i64 s.cols, .int .i64 s.wr, .slice A n c]] wx fun e w' => e = .returned (.bool true) ∧ Hid (Below w.heap.size w w') := fun A' c' wx h1 hx => by
        have := same41_c s s wx wx.heap.size A' A c' c (Nat.le_refl _) h1.out ((HS.out.below hx.out).more hx.out.size) (by rw [HN.out]; omega)
        rw [sameS_self, HN.out] at this
        exact this.mono (fun e w' h => ⟨h.1, Lib.hid (hx.out.trans (h.2.mono hx.out.size))⟩)
      have HBK := Lib.hid (hBK _ (Below.refl _ W9).drew)
      have HSM := Lib.hid hSM
      have d0 : W9.cell? ⟨b8, 0, none⟩ = some (.int .i64 s.rows) := cell_of_row W9 b8 0 _ _ _ hk98
      have d1 : W9.cell? ⟨b8, 1, none⟩ = some (.int .i64 s.cols) := cell_of_row W9 b8 1 _ _ _ hk98
      have d2 : W9.cell? ⟨b8, 2, none⟩ = some (.int .i64 s.wr) := cell_of_row W9 b8 2 _ _ _ hk98
      have d3 : W9.cell? ⟨b8, 3, none⟩ = some (.slice A8 n c8) := cell_of_row W9 b8 3 _ _ _ hk98
      have k0 : W9.cell? ⟨b, 0, none⟩ = some (.int .i64 s.rows) := cell_of_row W9 b 0 _ _ _ hk9
      have k1 : W9.cell? ⟨b, 1, none⟩ = some (.int .i64 s.cols) := cell_of_row W9 b 1 _ _ _ hk9
      have k2 : W9.cell? ⟨b, 2, none⟩ = some (.int .i64 s.wr) := cell_of_row W9 b 2 _ _ _ hk9
      have k3 : W9.cell? ⟨b, 3, none⟩ = some (.slice A n c) := cell_of_row W9 b 3 _ _ _ hk9
      rw [← hW9, ← hb8']
      clear hs8 hb8 hb89 hs9 hBK hSM HPAR HC1 HC2 hk9 hk98 hW9 hb8'
      go_region_with (first | (go_at_call 9; refine HBK.out.mono ?_; rintro e w10 ⟨A10, c10, rfl, hs10, hb10, j0, j1, j2, j3⟩) | (go_at_call 8; refine (HSM.out _ _ _ (by assumption) (by assumption)).mono ?_; rintro e w11 ⟨rfl, hb11⟩))
      all_goals
        go_wp2
        go_ret
        exact ⟨by kernel_rfl, hb11.out⟩
end Go.Proofs.YtlgfjacjcacmmaaGreatDoor
