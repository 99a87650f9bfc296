/- sheet.New: a sheet of so many fresh rows and columns. -/
import Derived.Test.YtbkmnboicihchaaIo
namespace Go.Proofs.Ytbkmnboicihchaa
set_option linter.unusedSimpArgs false
set_option linter.unusedVariables false
open Go Go.RowKit Go.Shelf Go.Maps

theorem freshL_succ (n : Nat) : freshL (n + 1) = freshL n ++ [⟨0, ((n : Int) + 1)⟩] := by
  unfold freshL
  rw [List.range_succ, List.map_append]
  rfl
theorem freshL_ok {n : Nat} (hn : n ≤ 1000) : ∀ x ∈ freshL n, x.ok := by
  intro x hx
  obtain ⟨i, hi, rfl⟩ := List.mem_map.1 hx
  have := List.mem_range.1 hi
  refine ⟨⟨?_, ?_⟩, ?_, ?_⟩ <;> simp only <;> omega
theorem allL_Ok {l : List Ik} (h1 : ∀ x ∈ l, x.ok) (h2 : ∀ x ∈ l, x.z = false) (h3 : l.Nodup) (h4 : l.length ≤ 1000) : (allL l).Ok := by
  refine ⟨by rw [allL_ids]; exact h1, by rw [allL_ids]; exact h2, by rw [allL_ids]; exact h3, by simpa [allL] using h4⟩
theorem fresh_Ok {n : Nat} (hn : n ≤ 1000) : (allL (freshL n)).Ok := allL_Ok (freshL_ok hn) (freshL_nz n) (freshL_nodup n) (by rw [freshL_len]; exact hn)
/-- what axis.New gives is an axis. -/
theorem RNew.ax {w wr : World} {p : Nat} {l : List Ik} (h : RNew w p l l.length wr) : AxW wr p (allL l) ∧ Below p w wr := by
  obtain ⟨Ai, ci, Al, cl, h1, h2, h3, -, hb, -⟩ := h
  have e1 : (allL l).length = l.length := by simp [allL]
  rw [List.take_length] at h2
  refine ⟨.inr ⟨Ai, ci, Al, cl, ?_, ?_, ?_⟩, hb⟩
  · rw [e1]; exact h1
  · rw [e1, allL_ids]; exact own_base0 h2
  · have e2 : (allL l).lives = List.replicate l.length (.bool true) := by
      unfold allL IL.lives
      rw [List.map_map, ← List.map_const]
      rfl
    rw [e1, e2]; exact own_base0 h3
theorem IkSl.of {w : World} {base : Nat} {A : Option Addr} {c : Nat} {l : List Ik} (h : w.ownsRow base 31 2 (.slice A l.length c) l.length (ikCells l)) : IkSl w w.heap.size A c l := by
  obtain ⟨A', c', e, h1, h2⟩ := own_parts h
  cases e
  refine ⟨h1, h2, ?_⟩
  by_cases hl : l = []
  · exact .inl hl
  · have h0 : 0 < l.length := List.length_pos_iff.2 hl
    obtain ⟨g, hg, -⟩ := ik_row_at h h0
    obtain ⟨-, cur, h3⟩ := own_blk h g (by rw [hg]; rfl)
    refine .inr ⟨g, 0, hg, (Array.getElem?_eq_some_iff.1 h3).1, fun j hj => ?_⟩
    obtain ⟨g', hg', hr⟩ := ik_row_at h hj
    rw [hg] at hg'
    cases hg'
    exact hr
set_option maxRecDepth 100000 in
set_option maxHeartbeats 4000000 in
theorem fresh_c (w : World) (n : Nat) (hn : n ≤ 1000) : Calls Try.prog 29 #[.int .i64 n] w fun e w' => ∃ p, e = .returned (.pointer (some ⟨p, 0, none⟩)) ∧ w.heap.size ≤ p ∧ AxW w' p (allL (freshL n)) ∧ Below w.heap.size w w' := by
  have hnew := fun (w : World) (A : Option Addr) (c : Nat) (hs : IkSl w w.heap.size A c (freshL n)) => axNew_c w (freshL n) (freshL_ok hn) (freshL_nz n) (freshL_nodup n) (by rw [freshL_len]; exact hn) A c hs
  have HNEW := Lib.hid hnew
  obtain ⟨ti, hti, hz0, hz1, hz2⟩ := info_parts infoIk
  have HTI := Lib.hid (And.intro hti (And.intro hz0 (And.intro hz1 hz2)))
  clear hnew hti hz0 hz1 hz2
  have q1 : ¬ (n : Int) < 0 := by omega
  have q2 : ¬ (1000 : Int) < n := by omega
  have q3 : (0 : Int) ≤ n := by omega
  have q4 : (n : Int) ≤ 1000 := by omega
  go_enter Try.func29, Try.ntmps29
  go_wp2
  clear q1 q2 q3 q4
  go_loopw [3, 4, 8] (fun s v i wr => ∃ j : Nat, j ≤ n ∧ i = .int .i64 j ∧ ∃ A c, s = .slice A j c ∧ Hid (wr.ownsRow w.heap.size 31 2 (.slice A j c) j (ikCells (freshL j)) ∧ Below w.heap.size w wr)) (fun _ _ i _ => n - (intOf i).toNat)
  case atStart => exact ⟨0, Nat.zero_le _, rfl, none, 0, rfl, Lib.hid ⟨⟨rfl, .inl ⟨rfl, rfl⟩⟩, Below.refl _ _⟩⟩
  case round =>
    obtain ⟨j, hj, rfl, A, c, rfl, hR⟩ := hrel
    by_cases hlt : j < n
    · have hj1 : (j : Int) < n := by omega
      have hcc : j ≤ c ∧ c ≤ 9223372036854775807 := by obtain ⟨_, _, e, h1, h2⟩ := own_parts hR.out.1; cases e; exact ⟨h1, h2⟩
      obtain ⟨hc1, hc2⟩ := hcc
      have hw : wrap64 ((j : Int) + 1) = (j : Int) + 1 := by unfold wrap64; omega
      have hj0 : (0 : Int) ≤ j := by omega
      go_wp2_with (at_builtin; refine wpList_append_lies _ rfl (.tmp 11) (.tmp 15) 62 rfl w.heap.size 31 ti _ 2 16 undIks HTI.out.1 HTI.out.2.1 HTI.out.2.2.1 HTI.out.2.2.2 rfl (by decide) (.slice A j c) j (ikCells (freshL j)) rfl (hR.out.1.alloc _) ⟨wr.heap.size, 0, none⟩ 1 1 [.int .i64 0, .int .i64 ((j : Int) + 1)] rfl rfl (World.news_of_block (heap_alloc_new wr (.cells #[.int .i64 0, .int .i64 ((j : Int) + 1)] 31))) (by intro u hu; simp only [List.mem_cons, List.not_mem_nil, or_false] at hu; rcases hu with rfl | rfl <;> rfl) (by decide) (by unfold maxLen; omega) (by omega) (by rw [World.size_alloc]; have := hR.out.2.size; omega) (wr.heap.size + 1) (by rw [World.size_alloc]) ?_; intro g3 cap3 w4 hown4 hgrow hat hlt4; have HO4 := Lib.hid hown4; have HG4 := Lib.hid hgrow; clear hown4 hgrow hat hlt4)
      go_roundw
      case measure => simp [intOf]; omega
      case rel =>
        refine ⟨j + 1, by omega, by go_num, some ⟨g3, 0, none⟩, cap3, rfl, Lib.hid ⟨?_, ?_⟩⟩
        · rw [freshL_succ, ikCells_snoc]
          exact HO4.out
        · have hb := hR.out.2
          exact (hb.alloc hb.size _).grown HG4.out (by rw [World.size_alloc]; have := hb.size; omega) (fun k e => (hR.out.1.lt k e).1)
    · obtain rfl : j = n := by omega
      have HX := Lib.hid (HNEW.out wr A c (IkSl.of (base := w.heap.size) (by rw [freshL_len]; exact hR.out.1)))
      have hlen := freshL_len j
      rw [hlen] at HX
      go_wp2_with (go_at_call 20; refine HX.out.mono ?_; rintro e w5 ⟨rfl, hN5⟩; have HN5 := Lib.hid hN5; clear hN5)
      first | go_ret | go_ret2
      have hx := RNew.ax (l := freshL j) (by rw [hlen]; exact HN5.out)
      have hb := hR.out.2
      exact ⟨wr.heap.size, rfl, hb.size, hx.1, hb.trans (hx.2.mono hb.size)⟩
set_option maxRecDepth 100000 in
theorem cellsNew_c (w : World) : Calls Try.prog 30 #[] w fun e w' => e = .returned (.pointer (some ⟨w.heap.size, 0, none⟩)) ∧ w' = w.alloc (.cells #[.map none] 124) := by
  go_enter Try.func30, Try.ntmps30
  go_wp2
  go_ret
  exact ⟨rfl, rfl⟩
set_option maxRecDepth 100000 in
theorem namesNew_c (w : World) : Calls Try.prog 31 #[] w fun e w' => e = .returned (.pointer (some ⟨w.heap.size, 0, none⟩)) ∧ w' = w.alloc (.cells #[.map none] 128) := by
  go_enter Try.func31, Try.ntmps31
  go_wp2
  go_ret
  exact ⟨rfl, rfl⟩
/-- a sheet whose cells and names have never been touched. -/
structure ShN (W : World) (s p q ce na : Nat) (L M : IL) : Prop where
  own : W.heap[s]? = some (.cells #[.pointer (some ⟨p, 0, none⟩), .pointer (some ⟨q, 0, none⟩), .pointer (some ⟨ce, 0, none⟩), .pointer (some ⟨na, 0, none⟩)] 72)
  rows : AxW W p L
  cols : AxW W q M
  cells : W.heap[ce]? = some (.cells #[.map none] 124)
  names : W.heap[na]? = some (.cells #[.map none] 128)
  ne : p ≠ q
set_option maxRecDepth 100000 in
set_option maxHeartbeats 2000000 in
theorem sheetNew_c (w : World) (n m : Nat) (hn : n ≤ 1000) (hm : m ≤ 1000) : Calls Try.prog 10 #[.int .i64 n, .int .i64 m] w fun e w' => ∃ s p q ce na, e = .returned (.pointer (some ⟨s, 0, none⟩)) ∧ ShN w' s p q ce na (allL (freshL n)) (allL (freshL m)) ∧ w.heap.size ≤ s ∧ w.heap.size ≤ p ∧ w.heap.size ≤ q ∧ w.heap.size ≤ ce ∧ w.heap.size ≤ na ∧ Below w.heap.size w w' := by
  have HF1 := Lib.hid (fresh_c w n hn)
  have HF2 := Lib.hid (fun (w : World) => fresh_c w m hm)
  have HC := Lib.hid cellsNew_c
  have HN := Lib.hid namesNew_c
  go_enter Try.func10, Try.ntmps10
  go_upto_region 1 with (fail)
  go_wp2_with (first | (go_at_call_of 29 (Value.int IntKind.i64 (n : Int)); refine HF1.out.mono ?_; rintro e w1 ⟨p, rfl, h1⟩; have HP := Lib.hid h1; clear h1) | (go_at_call_of 29 (Value.int IntKind.i64 (m : Int)); refine (HF2.out _).mono ?_; rintro e w2 ⟨q, rfl, h2⟩; have HQ := Lib.hid h2; clear h2) | (go_at_call 30; refine (HC.out _).mono ?_; rintro e w3 ⟨rfl, h3⟩; have H3 := Lib.hid h3; clear h3) | (go_at_call 31; refine (HN.out _).mono ?_; rintro e w4 ⟨rfl, h4⟩; have H4 := Lib.hid h4; clear h4))
  first | go_ret | go_ret2
  obtain ⟨hp, hax, hb1⟩ := HP.out
  obtain ⟨hq, hbx, hb2⟩ := HQ.out
  have hb3 : Below w2.heap.size w2 w3 := by rw [H3.out]; exact (Below.refl _ w2).alloc (Nat.le_refl _) _
  have hb4 : Below w3.heap.size w3 w4 := by rw [H4.out]; exact (Below.refl _ w3).alloc (Nat.le_refl _) _
  obtain ⟨SV, hSV⟩ : ∃ SV, SV = Obj.cells #[Value.pointer (some ⟨p, 0, none⟩), .pointer (some ⟨q, 0, none⟩), .pointer (some ⟨w2.heap.size, 0, none⟩), .pointer (some ⟨w3.heap.size, 0, none⟩)] 72 := ⟨_, rfl⟩
  change ∃ s p_1 q_1 ce na, _ ∧ ShN (w4.alloc (Obj.cells #[Value.pointer (some ⟨p, 0, none⟩), .pointer (some ⟨q, 0, none⟩), .pointer (some ⟨w2.heap.size, 0, none⟩), .pointer (some ⟨w3.heap.size, 0, none⟩)] 72)) s p_1 q_1 ce na _ _ ∧ _ ∧ _ ∧ _ ∧ _ ∧ _ ∧ Below _ _ (w4.alloc (Obj.cells #[Value.pointer (some ⟨p, 0, none⟩), .pointer (some ⟨q, 0, none⟩), .pointer (some ⟨w2.heap.size, 0, none⟩), .pointer (some ⟨w3.heap.size, 0, none⟩)] 72))
  rw [← hSV]
  have hb5 : Below w4.heap.size w4 (w4.alloc SV) := (Below.refl _ w4).alloc (Nat.le_refl _) _
  have s1 := hb1.size
  have s2 := hb2.size
  have s3 := hb3.size
  have s4 := hb4.size
  have hpl := hax.lt
  have hql := hbx.lt
  have hc3 : w3.heap[w2.heap.size]? = some (.cells #[.map none] 124) := by rw [H3.out]; exact heap_alloc_new _ _
  have hn4 : w4.heap[w3.heap.size]? = some (.cells #[.map none] 128) := by rw [H4.out]; exact heap_alloc_new _ _
  refine ⟨w4.heap.size, p, q, w2.heap.size, w3.heap.size, rfl, ⟨?_, ?_, ?_, ?_, ?_, by omega⟩, by omega, hp, by omega, by omega, by omega, ?_⟩
  · rw [← hSV]; exact heap_alloc_new _ _
  · exact (((hax.below hb2).below hb3).below hb4).below hb5
  · exact ((hbx.below hb3).below hb4).below hb5
  · exact (hb5.block _ (by have := (Array.getElem?_eq_some_iff.1 hc3).1; omega)).trans ((hb4.block _ (Array.getElem?_eq_some_iff.1 hc3).1).trans hc3)
  · exact (hb5.block _ (Array.getElem?_eq_some_iff.1 hn4).1).trans hn4
  · exact (((hb1.trans (hb2.mono s1)).trans (hb3.mono (by omega))).trans (hb4.mono (by omega))).trans (hb5.mono (by omega))
end Go.Proofs.Ytbkmnboicihchaa
