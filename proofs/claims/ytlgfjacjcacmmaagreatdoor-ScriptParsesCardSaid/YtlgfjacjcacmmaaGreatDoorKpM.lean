/- law 41: ScriptParses: the walk. -/
import Derived.Test.YtlgfjacjcacmmaaGreatDoorKrM
import Derived.Test.YtlgfjacjcacmmaaGreatDoorJqM
import Derived.Test.YtlgfjacjcacmmaaGreatDoorJsM
import Derived.Deep.MidRow
import Derived.Deep.RegionHeld
namespace Go.Proofs.YtlgfjacjcacmmaaGreatDoor
set_option linter.unusedSimpArgs false
set_option linter.unusedVariables false
open Go Go.RowKit Go.Shelf Go.Sort Go.BigFrame

theorem prs_len : ∀ (f n : Nat) (s : Scr) (t : List UInt8), s.steps.length ≤ 200 → (prs f n s t).1.steps.length ≤ 200
  | 0, _, _, _, h => h
  | f + 1, n, s, t, h => by
    unfold prs
    split
    · exact h
    · split
      · exact Nat.zero_le _
      · split
        · split
          · exact Nat.zero_le _
          · rename_i s' hs'
            exact prs_len f _ _ _ (by rw [(rdH_iff.1 hs').2.1]; exact Nat.zero_le _)
        · split
          · exact Nat.zero_le _
          · split
            · exact Nat.zero_le _
            · refine prs_len f _ _ _ ?_
              simp
              omega
theorem rangeAt_row {w : World} {b : Nat} {cs : Array Value} {T : TypeId} {fr : Nat × Nat} (h : w.heap[b]? = some (.cells cs T fr)) : w.rangeAt b 0 cs.toList := fun i v hv => by
  rw [Nat.zero_add]
  exact (cell_of_row w b i _ _ _ h).trans (by simpa using hv)
theorem parse_len (t : List UInt8) : (parseS t).1.steps.length ≤ 200 := prs_len _ _ _ _ (Nat.zero_le _)

set_option maxRecDepth 100000 in
set_option maxHeartbeats 4000000 in
theorem parses41_of (hREF : ∀ t : ByteArray, t.size ≤ 1048576 → ∀ w : World, Calls Tryz.prog 7 #[.string t] w (RParsePost w (parseS t.data.toList))) (t : ByteArray) (htz : t.size ≤ 9223372036854775807) (w : World) (he : ErrS w) (ht : Tab w) :
    Calls Tryz.prog 3 #[.string t] w fun e w' => e = .returned (.bool true) ∧ Below w.heap.size w w' := by
  have HREF := Lib.hid hREF
  clear hREF
  have HAW := Lib.hid (awake41_c w he ht)
  have HE := Lib.hid he
  have HT := Lib.hid ht
  clear he ht
  go_enter Tryz.func3, Tryz.ntmps3
  go_wp2_with fail
  refine HAW.out.mono ?_
  rintro e w1 ⟨rfl, hb1⟩
  have HB1 := Lib.hid hb1
  clear hb1
  by_cases hbig : 4000 < t.size
  · have q : (4000 : Int) < (t.size : Int) := by omega
    go_wp2
    go_ret
    exact ⟨by kernel_rfl, HB1.out⟩
  have q : ¬ (4000 : Int) < (t.size : Int) := by omega
  have hP := parse_c t (by omega) w1 (HE.out.below HB1.out) (tab_below HT.out HB1.out)
  have hRP := fun wx => HREF.out t (by omega) wx
  have hpl := parse_len t.data.toList
  unfold ParsePost at hP
  unfold RParsePost at hRP
  obtain ⟨⟨s, n, er⟩, hR⟩ : ∃ R, parseS t.data.toList = R := ⟨_, rfl⟩
  rw [hR] at hP hpl
  simp only [hR] at hRP
  dsimp only at hP hpl
  obtain ⟨m, hm⟩ : ∃ m, s.steps.length = m := ⟨_, rfl⟩
  rw [hm] at hP hpl
  simp only [hm] at hRP
  have HP := Lib.hid hP
  have HRP := Lib.hid hRP
  have HM := Lib.hid hm
  have HPL := Lib.hid hpl
  clear hP hRP hm hpl hR hbig
  go_upto_region 5 with (fail)
  clear q
  go_wp2_with fail
  refine HP.out.mono ?_
  rintro e w2 ⟨A, c, rfl, hs2, -, hb2⟩
  have hsl := hs2.1
  have hsc := hs2.2.1
  rw [HM.out] at hsl
  have HB2 := Lib.hid (HB1.out.trans (hb2.mono HB1.out.size))
  obtain ⟨b3, hb3⟩ : ∃ x, x = w2.heap.size := ⟨_, rfl⟩
  obtain ⟨W3, hW3⟩ : ∃ x, x = w2.alloc (.cells #[.int .i64 s.rows, .int .i64 s.cols, .int .i64 s.wr, .slice A m c] 25) := ⟨_, rfl⟩
  have hb23 : Below w2.heap.size w2 W3 := by rw [hW3]; exact (Below.refl _ w2).alloc (Nat.le_refl _) _
  have HB3 := Lib.hid (HB2.out.trans (hb23.mono HB2.out.size))
  have HK3 := Lib.hid (show W3.heap[b3]? = some (.cells #[.int .i64 s.rows, .int .i64 s.cols, .int .i64 s.wr, .slice A m c] 25) by rw [hW3, hb3]; exact heap_alloc_new w2 _)
  have HS3 := Lib.hid (hs2.below hb23)
  have HZ3 := Lib.hid hb23.size
  clear hs2 hb2 hb23 HP
  go_upto_region 6 with (fail)
  rw [← hW3, ← hb3]
  have HB33 := Lib.hid hb3
  clear hW3 hb3
  go_wp2_with fail
  refine (HRP.out _).mono ?_
  rintro e w4 ⟨A', c', rfl, hs4, hb4⟩
  have hsl4 := hs4.1
  have hsc4 := hs4.2.1
  rw [HM.out] at hsl4
  obtain ⟨b6, hb6⟩ : ∃ x, x = w4.heap.size := ⟨_, rfl⟩
  obtain ⟨W5, hW5⟩ : ∃ x, x = w4.alloc (.cells #[.int .i64 s.rows, .int .i64 s.cols, .int .i64 s.wr, .slice A' m c'] 31) := ⟨_, rfl⟩
  have hb45 : Below w4.heap.size w4 W5 := by rw [hW5]; exact (Below.refl _ w4).alloc (Nat.le_refl _) _
  have HB4 := Lib.hid (HB3.out.trans (hb4.mono HB3.out.size))
  have HB5 := Lib.hid (HB4.out.trans (hb45.mono HB4.out.size))
  have hb35 : Below W3.heap.size W3 W5 := hb4.trans (hb45.mono hb4.size)
  have hk5 := (hb35.block b3 (Array.getElem?_eq_some_iff.1 HK3.out).1).trans HK3.out
  have hk6 : W5.heap[b6]? = some (.cells #[.int .i64 s.rows, .int .i64 s.cols, .int .i64 s.wr, .slice A' m c'] 31) := by rw [hW5, hb6]; exact heap_alloc_new w4 _
  have hs5 := HS3.out.below (hb35.mono HZ3.out)
  have hs6 := hs4.below hb45
  have hz45 := hb45.size
  have hz35 := hb35.size
  have hBK : ∀ wx, Below W5.heap.size W5 wx → Calls Tryz.prog 9 #[.agg #[.int .i64 s.rows, .int .i64 s.cols, .int .i64 s.wr, .slice A m c]] wx fun e w' => ∃ A9 c9, e = .returned (.agg #[.int .i64 s.rows, .int .i64 s.cols, .int .i64 s.wr, .slice A9 m c9]) ∧ Hid (StpsAt w' w'.heap.size 50 A9 c9 s.steps) ∧ Below W5.heap.size W5 w' := fun wx hx => by
    have hzx := hx.size
    have := back_c s wx w2.heap.size A c (by have := HZ3.out; omega) (hs5.below (hx.mono (by have := HZ3.out; omega))) (by rw [HM.out]; have := HPL.out; omega)
    rw [HM.out] at this
    refine this.mono ?_
    rintro e w' ⟨A9, c9, h1, h2, h3⟩
    exact ⟨A9, c9, h1, Lib.hid h2, hx.trans (h3.mono hx.size)⟩
  have hSM : ∀ A9 c9 wx, Hid (StpsAt wx wx.heap.size 50 A9 c9 s.steps) → Below W5.heap.size W5 wx → Calls Tryz.prog 8 #[.agg #[.int .i64 s.rows, .int .i64 s.cols, .int .i64 s.wr, .slice A9 m c9], .agg #[.int .i64 s.rows, .int .i64 s.cols, .int .i64 s.wr, .slice A' m c']] wx fun e w' => e = .returned (.bool true) ∧ Below W5.heap.size W5 w' := fun A9 c9 wx h1 hx => by
    have := same41_c s s wx wx.heap.size A9 A' c9 c' (Nat.le_refl _) h1.out ((hs6.below (hx.mono hz45)).more (Nat.le_trans hz45 hx.size)) (by rw [HM.out]; have := HPL.out; omega)
    rw [sameS_self, HM.out] at this
    exact this.mono (fun e w' h => ⟨h.1, hx.trans (h.2.mono hx.size)⟩)
  have HBK := Lib.hid hBK
  have HSM := Lib.hid hSM
  have HRA := Lib.hid (fun (wx : World) (hx : Below W5.heap.size W5 wx) => rangeAt_row ((hx.block b3 (Array.getElem?_eq_some_iff.1 hk5).1).trans hk5))
  have HRB := Lib.hid (fun (wx : World) (hx : Below W5.heap.size W5 wx) => rangeAt_row ((hx.block b6 (Array.getElem?_eq_some_iff.1 hk6).1).trans hk6))
  have HIA := Lib.hid (show (Tryz.prog.info? 25).map (·.size) = some [Value.int .i64 s.rows, .int .i64 s.cols, .int .i64 s.wr, .slice A m c].length by kernel_rfl)
  have HIB := Lib.hid (show (Tryz.prog.info? 31).map (·.size) = some [Value.int .i64 s.rows, .int .i64 s.cols, .int .i64 s.wr, .slice A' m c'].length by kernel_rfl)
  clear hs4 hb4 hb45 hb35 hs5 hs6 hz45 hz35 hBK hSM hk5 hk6 HRP
  go_upto_region 7 with (fail)
  rw [← hW5, ← hb6]
  clear hW5 hb6
  refine wp_region_held_drew (S := fun wx => Below W5.heap.size W5 wx) (by kernel_rfl) (Below.refl _ W5).drew (fun hHeld => ?_)
  refine wpAnyH_take (i := 0) (v := .agg #[.int .i64 s.rows, .int .i64 s.cols, .int .i64 s.wr, .slice A m c]) rfl (by kernel_rfl) (by kernel_rfl) (by kernel_rfl) (fun _ _ _ h => h) (yieldsIf_load_mid (by kernel_rfl) 25 _ rfl b3 0 rfl [.int .i64 s.rows, .int .i64 s.cols, .int .i64 s.wr, .slice A m c] _ (fun _ hS => HRA.out _ hS) undSc rfl HIA.out) hHeld ?_
  (try simp only [Act.put, List.getElem_toArray, List.getElem_cons_succ, List.getElem_cons_zero, List.setIfInBounds_toArray, List.set_cons_zero, List.set_cons_succ])
  refine wpAnyH_take (i := 2) (v := .agg #[.int .i64 s.rows, .int .i64 s.cols, .int .i64 s.wr, .slice A' m c']) rfl (by kernel_rfl) (by kernel_rfl) (by kernel_rfl) (fun _ _ _ h => h) (yieldsIf_load_mid (by kernel_rfl) 31 _ rfl b6 0 rfl [.int .i64 s.rows, .int .i64 s.cols, .int .i64 s.wr, .slice A' m c'] _ (fun _ hS => HRB.out _ hS) undRsP rfl HIB.out) hHeld ?_
  (try simp only [Act.put, List.getElem_toArray, List.getElem_cons_succ, List.getElem_cons_zero, List.setIfInBounds_toArray, List.set_cons_zero, List.set_cons_succ])
  refine wpAnyH_ready (rs := [1]) (by kernel_rfl) (by simp) ?_
  refine AllReadyH.cons rfl (fun K hK => ?_) AllReadyH.nil
  go_simp
  refine (HBK.out _ hHeld).mono ?_
  rintro e w10 ⟨A10, c10, rfl, hs10, hb10⟩
  try go_simp
  refine hK.out _ _ hb10 (fun hHeld1 => ?_)
  clear hK K hHeld hb10
  (try simp only [Act.put, List.getElem_toArray, List.getElem_cons_succ, List.getElem_cons_zero, List.setIfInBounds_toArray, List.set_cons_zero, List.set_cons_succ])
  refine wpAnyH_ready (rs := [3]) (by kernel_rfl) (by simp) ?_
  refine AllReadyH.cons rfl (fun K hK => ?_) AllReadyH.nil
  go_simp
  refine (HSM.out _ _ _ hs10 hHeld1).mono ?_
  rintro e w11 ⟨rfl, hb11⟩
  try go_simp
  refine hK.out _ _ hb11 (fun hHeld => ?_)
  clear hK K hHeld1 hb11
  (try simp only [Act.put, List.getElem_toArray, List.getElem_cons_succ, List.getElem_cons_zero, List.setIfInBounds_toArray, List.set_cons_zero, List.set_cons_succ])
  refine wpAnyH_take (i := 4) (v := .bool true) rfl (by kernel_rfl) (by kernel_rfl) (by kernel_rfl) (fun _ _ _ h => h) (Or.inl ⟨by kernel_rfl, fun _ hS => by kernel_rfl⟩) hHeld ?_
  (try simp only [Act.put, List.getElem_toArray, List.getElem_cons_succ, List.getElem_cons_zero, List.setIfInBounds_toArray, List.set_cons_zero, List.set_cons_succ])
  refine wpAnyH_take (i := 5) (v := .int .i64 (n : Int)) rfl (by kernel_rfl) (by kernel_rfl) (by kernel_rfl) (fun _ _ _ h => h) (Or.inl ⟨by kernel_rfl, fun _ hS => by kernel_rfl⟩) hHeld ?_
  (try simp only [Act.put, List.getElem_toArray, List.getElem_cons_succ, List.getElem_cons_zero, List.setIfInBounds_toArray, List.set_cons_zero, List.set_cons_succ])
  refine wpAnyH_take (i := 6) (v := .int .i64 (n : Int)) rfl (by kernel_rfl) (by kernel_rfl) (by kernel_rfl) (fun _ _ _ h => h) (Or.inl ⟨by kernel_rfl, fun _ hS => by kernel_rfl⟩) hHeld ?_
  (try simp only [Act.put, List.getElem_toArray, List.getElem_cons_succ, List.getElem_cons_zero, List.setIfInBounds_toArray, List.set_cons_zero, List.set_cons_succ])
  refine wpAnyH_take (i := 7) (v := .bool ((n : Int) == (n : Int))) rfl (by kernel_rfl) (by kernel_rfl) (by kernel_rfl) (fun _ _ _ h => h) (Or.inl ⟨by kernel_rfl, fun _ hS => by kernel_rfl⟩) hHeld ?_
  (try simp only [Act.put, List.getElem_toArray, List.getElem_cons_succ, List.getElem_cons_zero, List.setIfInBounds_toArray, List.set_cons_zero, List.set_cons_succ])
  rw [show ((n : Int) == (n : Int)) = true by simp]
  refine wpAnyH_take (i := 8) (v := .bool true) rfl (by kernel_rfl) (by kernel_rfl) (by kernel_rfl) (fun _ _ _ h => h) (Or.inl ⟨by kernel_rfl, fun _ hS => by kernel_rfl⟩) hHeld ?_
  (try simp only [Act.put, List.getElem_toArray, List.getElem_cons_succ, List.getElem_cons_zero, List.setIfInBounds_toArray, List.set_cons_zero, List.set_cons_succ])
  refine wpAnyH_take (i := 9) (v := .bool true) rfl (by kernel_rfl) (by kernel_rfl) (by kernel_rfl) (fun _ _ _ h => h) (Or.inl ⟨by kernel_rfl, fun _ hS => by kernel_rfl⟩) hHeld ?_
  (try simp only [Act.put, List.getElem_toArray, List.getElem_cons_succ, List.getElem_cons_zero, List.setIfInBounds_toArray, List.set_cons_zero, List.set_cons_succ])
  refine wpAnyH_take (i := 10) (v := .int .i64 er) rfl (by kernel_rfl) (by kernel_rfl) (by kernel_rfl) (fun _ _ _ h => h) (Or.inl ⟨by kernel_rfl, fun _ hS => by kernel_rfl⟩) hHeld ?_
  (try simp only [Act.put, List.getElem_toArray, List.getElem_cons_succ, List.getElem_cons_zero, List.setIfInBounds_toArray, List.set_cons_zero, List.set_cons_succ])
  refine wpAnyH_take (i := 11) (v := .int .i64 er) rfl (by kernel_rfl) (by kernel_rfl) (by kernel_rfl) (fun _ _ _ h => h) (Or.inl ⟨by kernel_rfl, fun _ hS => by kernel_rfl⟩) hHeld ?_
  (try simp only [Act.put, List.getElem_toArray, List.getElem_cons_succ, List.getElem_cons_zero, List.setIfInBounds_toArray, List.set_cons_zero, List.set_cons_succ])
  refine wpAnyH_take (i := 12) (v := .bool (er == er)) rfl (by kernel_rfl) (by kernel_rfl) (by kernel_rfl) (fun _ _ _ h => h) (Or.inl ⟨by kernel_rfl, fun _ hS => by kernel_rfl⟩) hHeld ?_
  (try simp only [Act.put, List.getElem_toArray, List.getElem_cons_succ, List.getElem_cons_zero, List.setIfInBounds_toArray, List.set_cons_zero, List.set_cons_succ])
  rw [show (er == er) = true by simp]
  refine wpAnyH_take (i := 13) (v := .bool true) rfl (by kernel_rfl) (by kernel_rfl) (by kernel_rfl) (fun _ _ _ h => h) (Or.inl ⟨by kernel_rfl, fun _ hS => by kernel_rfl⟩) hHeld ?_
  (try simp only [Act.put, List.getElem_toArray, List.getElem_cons_succ, List.getElem_cons_zero, List.setIfInBounds_toArray, List.set_cons_zero, List.set_cons_succ])
  refine wpAnyH_take (i := 14) (v := .bool true) rfl (by kernel_rfl) (by kernel_rfl) (by kernel_rfl) (fun _ _ _ h => h) (Or.inl ⟨by kernel_rfl, fun _ hS => by kernel_rfl⟩) hHeld ?_
  (try simp only [Act.put, List.getElem_toArray, List.getElem_cons_succ, List.getElem_cons_zero, List.setIfInBounds_toArray, List.set_cons_zero, List.set_cons_succ])
  refine wpAnyH_done (by kernel_rfl) ?_ _
  have HHD := Lib.hid hHeld
  clear hHeld
  go_wp2
  go_ret
  exact ⟨by kernel_rfl, HB5.out.trans (HHD.out.mono HB5.out.size)⟩
end Go.Proofs.YtlgfjacjcacmmaaGreatDoor
