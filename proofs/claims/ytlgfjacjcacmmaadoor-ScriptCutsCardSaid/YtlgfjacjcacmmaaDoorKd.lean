/- law 41: ScriptSteps: the walk. -/
import Derived.Test.YtlgfjacjcacmmaaDoorJr
import Derived.Test.YtlgfjacjcacmmaaDoorJp
import Derived.Test.YtlgfjacjcacmmaaDoorJq
namespace Go.Proofs.YtlgfjacjcacmmaaDoor
set_option linter.unusedSimpArgs false
set_option linter.unusedVariables false
open Go Go.RowKit Go.Shelf

theorem scrB_head (s : Scr) : scrB ⟨s.rows, s.cols, s.wr, []⟩ = headB s := by
  unfold scrB
  simp only [List.length_nil, List.all_nil, Bool.and_true, Nat.zero_le, decide_true]
  rfl
theorem scrB_one (s : Scr) (x : Stp) : scrB ⟨s.rows, s.cols, s.wr, [x]⟩ = (headB s && stepB x s.wr) := by
  unfold scrB
  simp only [List.length_singleton, List.all_cons, List.all_nil, Bool.and_true]
  rw [decide_eq_true (p := 1 ≤ 200) (by omega), Bool.and_true]
  rfl
/-- so far. -/
def accS (s : Scr) (j : Nat) : Bool := headB s && decide (s.steps.length ≤ 200) && (s.steps.take j).all (fun x => stepB x s.wr)
theorem accS_next {s : Scr} {j : Nat} (h : j < s.steps.length) : accS s (j + 1) = (accS s j && (headB s && stepB s.steps[j] s.wr)) := by
  unfold accS
  rw [List.take_succ_eq_append_getElem h, List.all_append]
  cases headB s <;> simp [Bool.and_assoc]
theorem accS_end (s : Scr) : accS s s.steps.length = scrB s := by
  unfold accS scrB
  rw [List.take_length]
theorem StpsAt.one {w : World} {B : Nat} {T : TypeId} {A : Option Addr} {c : Nat} {l : List Stp} (h : StpsAt w B T A c l) {j : Nat} (hj : j < l.length) : ∃ b o, A = some ⟨b, o, none⟩ ∧ StpsAt w B T (some ⟨b, o + j * 7, none⟩) (c - j) [l[j]] := by
  obtain ⟨b, o, e, hbB, hr⟩ := h.at_ hj
  refine ⟨b, o, e, ?_, ?_, .inr ⟨b, _, rfl, hbB, fun i hi => ?_⟩⟩
  · have := h.1; simp; omega
  · have := h.2.1; omega
  · obtain rfl : i = 0 := by simp at hi; omega
    simpa using hr
theorem textI_ne {s : Scr} (h : scrB s = true) : (⟨(textI s).toArray⟩ : ByteArray).size ≠ 0 := by
  rw [sizeP]
  unfold textI textS
  rw [if_pos h]
  simp
theorem textI_no {s : Scr} (h : scrB s = false) : textI s = [] := by
  unfold textI
  rw [h]
  rfl
theorem undRs41 : Tryd.prog.underlying 24 = some (.struct (Tryd.prog.fieldsOf 24)) := by kernel_rfl

/-- where the rounds stand: the copy, the small script, what was. -/
structure SI (w3 : World) (b : Nat) (s : Scr) (A : Option Addr) (n c : Nat) (wr : World) : Prop where
  src : wr.heap[b]? = some (.cells #[.int .i64 s.rows, .int .i64 s.cols, .int .i64 s.wr, .slice A n c] 33)
  box : ∃ v, wr.heap[b + 1]? = some (.cells #[.int .i64 s.rows, .int .i64 s.cols, .int .i64 s.wr, v] 33)
  bel : Below b w3 wr
theorem SI.next {w3 : World} {b : Nat} {s : Scr} {A : Option Addr} {n c : Nat} {wr w2 : World} (h : SI w3 b s A n c wr) (hb : Below wr.heap.size wr w2) : SI w3 b s A n c w2 := by
  obtain ⟨v, hv⟩ := h.box
  exact ⟨(hb.block b (Array.getElem?_eq_some_iff.1 h.src).1).trans h.src, ⟨v, (hb.block _ (Array.getElem?_eq_some_iff.1 hv).1).trans hv⟩, h.bel.trans (hb.mono (by have := (Array.getElem?_eq_some_iff.1 h.src).1; omega))⟩
theorem SI.set {w3 : World} {b : Nat} {s : Scr} {A : Option Addr} {n c : Nat} {wr : World} (h : SI w3 b s A n c wr) (v : Value) : SI w3 b s A n c (wr.setCell ⟨b + 1, 3, none⟩ v) ∧ (wr.setCell ⟨b + 1, 3, none⟩ v).heap[b + 1]? = some (.cells #[.int .i64 s.rows, .int .i64 s.cols, .int .i64 s.wr, v] 33) := by
  obtain ⟨u, hu⟩ := h.box
  have h2 : (wr.setCell ⟨b + 1, 3, none⟩ v).heap[b + 1]? = some (.cells #[.int .i64 s.rows, .int .i64 s.cols, .int .i64 s.wr, v] 33) := by
    have := heap_setCell_same wr (b + 1) 3 _ _ v hu
    simpa using this
  refine ⟨⟨(Below.heap_setCell wr ⟨b + 1, 3, none⟩ v b (by show b ≠ b + 1; omega)).trans h.src, ⟨v, h2⟩, ?_⟩, h2⟩
  refine ⟨h.bel.os, h.bel.tape, h.bel.output, by have := h.bel.size; show _ ≤ (wr.setCell _ _).heap.size; simp; omega, fun k hk => (Below.heap_setCell wr ⟨b + 1, 3, none⟩ v k (by show k ≠ b + 1; omega)).trans (h.bel.block k hk)⟩

set_option maxRecDepth 100000 in
set_option maxHeartbeats 4000000 in
theorem steps41_c (s : Scr) (w : World) (A : Option Addr) (c : Nat) (hs : StpsAt w w.heap.size 43 A c s.steps) (hf : ∀ x ∈ s.steps, x.fit) (hi : i64 s.rows ∧ i64 s.cols ∧ i64 s.wr) (he : ErrS w) (ht : Tab w) :
    Calls Tryd.prog 4 #[.agg #[.int .i64 s.rows, .int .i64 s.cols, .int .i64 s.wr, .slice A s.steps.length c]] w fun e w' => e = .returned (.bool true) ∧ Below w.heap.size w w' := by
  obtain ⟨n, hn⟩ : ∃ n, s.steps.length = n := ⟨_, rfl⟩
  have hsl := hs.1
  have hsc := hs.2.1
  rw [hn] at hsl
  obtain ⟨b, hb⟩ : ∃ b, b = w.heap.size := ⟨_, rfl⟩
  obtain ⟨W, hW⟩ : ∃ W, W = w.alloc (.cells #[.int .i64 s.rows, .int .i64 s.cols, .int .i64 s.wr, .slice A n c] 24) := ⟨_, rfl⟩
  have hbW : Below w.heap.size w W := by rw [hW]; exact (Below.refl _ w).alloc (Nat.le_refl _) _
  have hkW : W.heap[b]? = some (.cells #[.int .i64 s.rows, .int .i64 s.cols, .int .i64 s.wr, .slice A n c] 24) := by rw [hW, hb]; exact heap_alloc_new w _
  have hzW : W.heap.size = b + 1 := by rw [hW, hb]; simp
  have HAW := Lib.hid (awake41_c W (he.below hbW) (tab_below ht hbW))
  have hGr := fun (wx : World) (hx : Below w.heap.size w wx) => great41_c s wx w.heap.size A c hx.size (hs.below hx) hf
  have hOf := fun (wx : World) (hx : Below w.heap.size w wx) (hlen : s.steps.length ≤ 1000) => of_c s wx w.heap.size A c hx.size (hs.below hx) hlen
  have hRH := fun (wx : World) => sright_c ⟨s.rows, s.cols, s.wr, []⟩ wx 0 none 0 (by omega) ⟨by simp, by omega, .inl rfl⟩ (fun _ h => by cases h)
  rw [scrB_head] at hRH
  dsimp only [List.length_nil] at hRH
  have hIS : (Tryd.prog.info? 24).map (·.size) = some (#[.int .i64 s.rows, .int .i64 s.cols, .int .i64 s.wr, .slice A n c] : Array Value).size := by kernel_rfl
  obtain ⟨r, hr⟩ : ∃ r, greatS s = r := ⟨_, rfl⟩
  rw [hn] at hGr hOf ⊢
  rw [hr] at hGr
  have HGR := Lib.hid hGr
  have HOF := Lib.hid hOf
  have HRH := Lib.hid hRH
  have HIS := Lib.hid hIS
  have HR := Lib.hid hr
  have HB := Lib.hid hb
  have HBW := Lib.hid hbW
  have HKW := Lib.hid hkW
  have HZW := Lib.hid hzW
  have HS := Lib.hid hs
  have HF := Lib.hid hf
  have HN := Lib.hid hn
  have HI := Lib.hid hi
  have HT := Lib.hid ht
  clear hGr hOf hRH hIS hr hbW hkW hzW hs hf hn hi ht he
  go_enter Tryd.func4, Tryd.ntmps4
  go_upto_region 1 with (fail)
  rw [← hW, ← hb]
  clear hW hb
  go_wp2_with fail
  refine HAW.out.mono ?_
  rintro e w1 ⟨rfl, hb1⟩
  have HB1 := Lib.hid (HBW.out.trans (hb1.mono HBW.out.size))
  have HK1 := Lib.hid ((hb1.block b (by rw [HZW.out]; omega)).trans HKW.out)
  clear hb1
  go_wp2_with (first | (refine wpList_row rfl 24 _ rfl b rfl 24 #[.int .i64 s.rows, .int .i64 s.cols, .int .i64 s.wr, .slice A n c] (0, 0) _ HK1.out undRs41 rfl HIS.out ?_) | fail)
  refine (HGR.out _ HB1.out).mono ?_
  rintro e w2 ⟨rfl, hb2⟩
  have HB2 := Lib.hid (HB1.out.trans (hb2.mono HB1.out.size))
  have HK2 := Lib.hid ((hb2.block b (Array.getElem?_eq_some_iff.1 HK1.out).1).trans HK1.out)
  clear hb2
  cases r with
  | true =>
    go_wp2
    go_ret
    exact ⟨by kernel_rfl, HB2.out⟩
  | false =>
    obtain ⟨hl250, -⟩ := great_small HR.out
    have hn250 : n ≤ 250 := by rw [← HN.out]; exact hl250
    go_wp2_with (first | (refine wpList_row rfl 24 _ rfl b rfl 24 #[.int .i64 s.rows, .int .i64 s.cols, .int .i64 s.wr, .slice A n c] (0, 0) _ HK2.out undRs41 rfl HIS.out ?_) | fail)
    refine (HOF.out _ HB2.out (by omega)).mono ?_
    rintro e w3 ⟨A', c', rfl, hs3, hb3⟩
    have HB3 := Lib.hid (HB2.out.trans (hb3.mono HB2.out.size))
    have hS3 := Lib.hid hs3
    have hsl3 := hs3.1
    have hsc3 := hs3.2.1
    rw [HN.out] at hsl3
    clear hs3 hb3 hl250
    obtain ⟨b3, hb3⟩ : ∃ x, x = w3.heap.size := ⟨_, rfl⟩
    go_upto_region 8 with (first | (refine wpList_row rfl 33 _ rfl w3.heap.size rfl 33 #[.int .i64 s.rows, .int .i64 s.cols, .int .i64 s.wr, .slice A' n c'] (0, 0) _ (heap_alloc_new w3 _) undSc rfl (by kernel_rfl) ?_) | fail)
    obtain ⟨W4, hW4⟩ : ∃ x, x = (w3.alloc (.cells #[.int .i64 s.rows, .int .i64 s.cols, .int .i64 s.wr, .slice A' n c'] 33)).alloc (.cells #[.int .i64 s.rows, .int .i64 s.cols, .int .i64 s.wr, .slice none 0 0] 33) := ⟨_, rfl⟩
    rw [← hW4, ← hb3]
    have hk4 : W4.heap[b3 + 1]? = some (.cells #[.int .i64 s.rows, .int .i64 s.cols, .int .i64 s.wr, .slice none 0 0] 33) := by
      rw [hW4, hb3]
      have := heap_alloc_new (w3.alloc (.cells #[.int .i64 s.rows, .int .i64 s.cols, .int .i64 s.wr, .slice A' n c'] 33)) (.cells #[.int .i64 s.rows, .int .i64 s.cols, .int .i64 s.wr, .slice none 0 0] 33)
      rwa [World.size_alloc] at this
    have HSI : Hid (SI w3 b3 s A' n c' W4) := Lib.hid ⟨by rw [hW4, hb3]; exact (heapOld _ _ _ (by simp)).trans (heap_alloc_new _ _), ⟨_, hk4⟩, by rw [hW4, hb3]; exact two_alloc _ _ _⟩
    have hIS1 : ∀ v : Value, (Tryd.prog.info? 33).map (·.size) = some (#[.int .i64 s.rows, .int .i64 s.cols, .int .i64 s.wr, v] : Array Value).size := fun v => by kernel_rfl
    have HIS1 := Lib.hid hIS1
    have HK4 := Lib.hid hk4
    have HB34 := Lib.hid hb3
    clear hW4 hb3 hk4 hIS1
    go_cut [5] (fun a wx => a = .bool (accS s 0) ∧ Hid (SI w3 b3 s A' n c' wx))
    case first =>
      go_wp2_with (first | (refine wpList_row rfl 33 _ rfl (b3 + 1) rfl 33 #[.int .i64 s.rows, .int .i64 s.cols, .int .i64 s.wr, .slice none 0 0] (0, 0) _ HK4.out undSc rfl (HIS1.out _) ?_) | fail)
      refine (HRH.out _).mono ?_
      rintro e w5 ⟨rfl, hb5⟩
      have HS5 := Lib.hid (HSI.out.next hb5)
      clear hb5
      have p3 : w5.cell? ⟨b3, 3, none⟩ = some (.slice A' n c') := cell_of_row w5 b3 3 _ _ _ HS5.out.src
      have hac : accS s 0 = (headB s && decide (n ≤ 200)) := by unfold accS; rw [HN.out]; simp
      obtain ⟨hd, hhd⟩ : ∃ x, headB s = x := ⟨_, rfl⟩
      rw [hhd] at hac ⊢
      have HAC := Lib.hid hac
      clear hhd hac
      cases hd with
      | false =>
        go_wp2_with fail
        go_meet
        exact ⟨congrArg Value.bool (HAC.out.trans rfl).symm, HS5⟩
      | true =>
        by_cases h200 : n ≤ 200
        · have q : (n : Int) ≤ 200 := by omega
          go_wp2_with fail
          go_meet
          exact ⟨congrArg Value.bool (HAC.out.trans (by rw [decide_eq_true h200]; rfl)).symm, HS5⟩
        · have q : ¬ (n : Int) ≤ 200 := by omega
          go_wp2_with fail
          go_meet
          exact ⟨congrArg Value.bool (HAC.out.trans (by rw [decide_eq_false h200]; exact (decide_eq_false (show ¬ (n : Int) ≤ 200 by omega)).symm)).symm, HS5⟩
    case rest =>
      obtain ⟨rfl, hS5⟩ := hcut
      rename_i wc
      have p3 : wc.cell? ⟨b3, 3, none⟩ = some (.slice A' n c') := cell_of_row wc b3 3 _ _ _ hS5.out.src
      go_wp2_with fail
      clear p3
      go_loopw [5, 6] (fun a i wr => ∃ j : Nat, j ≤ n ∧ a = .bool (accS s j) ∧ i = .int .i64 j ∧ Hid (SI w3 b3 s A' n c' wr)) (fun _ i _ => n - (intOf i).toNat)
      case atStart => exact ⟨0, Nat.zero_le _, rfl, rfl, hS5⟩
      case round =>
        obtain ⟨j, hj, rfl, rfl, hS⟩ := hrel
        have p3 : wr.cell? ⟨b3, 3, none⟩ = some (.slice A' n c') := cell_of_row wr b3 3 _ _ _ hS.out.src
        by_cases hlt : j < n
        · have hjl : j < s.steps.length := by rw [HN.out]; exact hlt
          have hj1 : (j : Int) < (n : Int) := by omega
          have hj0 : (0 : Int) ≤ (j : Int) := by omega
          obtain ⟨bb, oo, hA, h1⟩ := hS3.out.one hjl
          subst hA
          have hc1 : ((j : Int) + 1) ≤ (c' : Int) := by omega
          obtain ⟨ac, hac⟩ : ∃ x, accS s j = x := ⟨_, rfl⟩
          rw [hac]
          have HAC := Lib.hid hac
          obtain ⟨v4, hv4⟩ := hS.out.box
          have p4 : wr.cell? ⟨b3 + 1, 3, none⟩ = some v4 := cell_of_row wr (b3 + 1) 3 _ _ _ hv4
          have f4 : wr.frozen? ⟨b3 + 1, 3, none⟩ = false := fz_row hv4 3
          clear hac hv4
          go_upto_region 13 with (fail)
          clear p3 p4 f4
          obtain ⟨r2, hr2⟩ : ∃ x, (headB s && stepB s.steps[j] s.wr) = x := ⟨_, rfl⟩
          have hnx : accS s (j + 1) = (ac && r2) := by rw [accS_next hjl, hr2, HAC.out]
          have hsc : scrB ⟨s.rows, s.cols, s.wr, [s.steps[j]]⟩ = r2 := (scrB_one s _).trans hr2
          obtain ⟨tx, htx⟩ : ∃ x, textI ⟨s.rows, s.cols, s.wr, [s.steps[j]]⟩ = x := ⟨_, rfl⟩
          have hfx : ∀ y ∈ [s.steps[j]], y.fit := fun y hy => by
            obtain rfl := List.mem_singleton.1 hy
            exact HF.out _ (List.getElem_mem hjl)
          have hbx : ∀ wx : World, SI w3 b3 s (some ⟨bb, oo, none⟩) n c' wx → Below w3.heap.size w3 wx := fun wx hx => by rw [← HB34.out]; exact hx.bel
          have hR1 : ∀ wx : World, SI w3 b3 s (some ⟨bb, oo, none⟩) n c' wx → Calls Tryd.prog 12 #[.agg #[.int .i64 s.rows, .int .i64 s.cols, .int .i64 s.wr, .slice (some ⟨bb, oo + j * 7, none⟩) 1 (c' - j)]] wx fun e w' => e = .returned (.bool r2) ∧ Below wx.heap.size wx w' := fun wx hx => by
            have := sright_c ⟨s.rows, s.cols, s.wr, [s.steps[j]]⟩ wx w3.heap.size _ _ (hbx wx hx).size (h1.below (hbx wx hx)) hfx
            rw [hsc] at this
            exact this
          have hT1 : ∀ wx : World, SI w3 b3 s (some ⟨bb, oo, none⟩) n c' wx → Calls Tryd.prog 7 #[.agg #[.int .i64 s.rows, .int .i64 s.cols, .int .i64 s.wr, .slice (some ⟨bb, oo + j * 7, none⟩) 1 (c' - j)]] wx fun e w' => e = .returned (.tuple #[.string ⟨tx.toArray⟩, .int .i64 (if r2 = true then 0 else 6)]) ∧ Below wx.heap.size wx w' := fun wx hx => by
            have := stext_c ⟨s.rows, s.cols, s.wr, [s.steps[j]]⟩ wx w3.heap.size _ _ (hbx wx hx).size (h1.below (hbx wx hx)) hfx HI.out (tab_below HT.out (HB3.out.trans ((hbx wx hx).mono HB3.out.size)))
            rw [hsc, htx] at this
            exact this
          have hne : r2 = true → (⟨tx.toArray⟩ : ByteArray).size ≠ 0 := fun h => by rw [← htx]; exact textI_ne (hsc.trans h)
          obtain ⟨hS6, hk6⟩ := hS.out.set (.slice (some ⟨bb, oo + j * 7, none⟩) 1 (c' - j))
          have HR1 := Lib.hid hR1
          have HT1 := Lib.hid hT1
          have HNX := Lib.hid hnx
          have HNE := Lib.hid hne
          have HS6 := Lib.hid hS6
          have HK6 := Lib.hid hk6
          generalize (⟨tx.toArray⟩ : ByteArray) = tb at HT1 HNE
          generalize wr.setCell ⟨b3 + 1, 3, none⟩ (.slice (some ⟨bb, oo + j * 7, none⟩) 1 (c' - j)) = W6 at HS6 HK6 ⊢
          clear hr2 hnx hsc htx hfx hbx hR1 hT1 hne hS6 hk6 h1 hS
          go_wp2_with (first | (refine wpList_row rfl 33 _ rfl (b3 + 1) rfl 33 #[.int .i64 s.rows, .int .i64 s.cols, .int .i64 s.wr, .slice (some ⟨bb, oo + j * 7, none⟩) 1 (c' - j)] (0, 0) _ HK6.out undSc rfl (HIS1.out _) ?_) | fail)
          refine (HR1.out _ HS6.out).mono ?_
          rintro e w7 ⟨rfl, hb7⟩
          have HS7 := Lib.hid (HS6.out.next hb7)
          have HK7 := Lib.hid ((hb7.block (b3 + 1) (Array.getElem?_eq_some_iff.1 HK6.out).1).trans HK6.out)
          clear hb7
          cases r2 with
          | true =>
            have hz : ¬ (tb.size : Int) = 0 := by have := HNE.out rfl; omega
            have hz1 : ((tb.size : Int) == 0) = false := by simpa using hz
            have hz2 := hz
            cases ac with
            | true =>
              go_wp2_with (first | (refine wpList_row rfl 33 _ rfl (b3 + 1) rfl 33 #[.int .i64 s.rows, .int .i64 s.cols, .int .i64 s.wr, .slice (some ⟨bb, oo + j * 7, none⟩) 1 (c' - j)] (0, 0) _ HK7.out undSc rfl (HIS1.out _) ?_) | (go_at_call 7; refine (HT1.out _ HS7.out).mono ?_; rintro e w8 ⟨rfl, hb8⟩))
              go_roundw
              case rel => exact ⟨j + 1, by omega, congrArg Value.bool HNX.out.symm, by go_num, Lib.hid (HS7.out.next hb8)⟩
              case measure => simp [intOf]; omega
            | false =>
              go_wp2_with (first | (refine wpList_row rfl 33 _ rfl (b3 + 1) rfl 33 #[.int .i64 s.rows, .int .i64 s.cols, .int .i64 s.wr, .slice (some ⟨bb, oo + j * 7, none⟩) 1 (c' - j)] (0, 0) _ HK7.out undSc rfl (HIS1.out _) ?_) | (go_at_call 7; refine (HT1.out _ HS7.out).mono ?_; rintro e w8 ⟨rfl, hb8⟩))
              go_roundw
              case rel => exact ⟨j + 1, by omega, congrArg Value.bool HNX.out.symm, by go_num, Lib.hid (HS7.out.next hb8)⟩
              case measure => simp [intOf]; omega
          | false =>
            cases ac with
            | true =>
              go_wp2_with (first | (refine wpList_row rfl 33 _ rfl (b3 + 1) rfl 33 #[.int .i64 s.rows, .int .i64 s.cols, .int .i64 s.wr, .slice (some ⟨bb, oo + j * 7, none⟩) 1 (c' - j)] (0, 0) _ HK7.out undSc rfl (HIS1.out _) ?_) | (go_at_call 7; refine (HT1.out _ HS7.out).mono ?_; rintro e w8 ⟨rfl, hb8⟩))
              go_roundw
              case rel => exact ⟨j + 1, by omega, congrArg Value.bool HNX.out.symm, by go_num, Lib.hid (HS7.out.next hb8)⟩
              case measure => simp [intOf]; omega
            | false =>
              go_wp2_with (first | (refine wpList_row rfl 33 _ rfl (b3 + 1) rfl 33 #[.int .i64 s.rows, .int .i64 s.cols, .int .i64 s.wr, .slice (some ⟨bb, oo + j * 7, none⟩) 1 (c' - j)] (0, 0) _ HK7.out undSc rfl (HIS1.out _) ?_) | (go_at_call 7; refine (HT1.out _ HS7.out).mono ?_; rintro e w8 ⟨rfl, hb8⟩))
              go_roundw
              case rel => exact ⟨j + 1, by omega, congrArg Value.bool HNX.out.symm, by go_num, Lib.hid (HS7.out.next hb8)⟩
              case measure => simp [intOf]; omega
        · obtain rfl : j = n := by omega
          have hR : Calls Tryd.prog 12 #[.agg #[.int .i64 s.rows, .int .i64 s.cols, .int .i64 s.wr, .slice A' j c']] wr fun e w' => e = .returned (.bool (scrB s)) ∧ Below wr.heap.size wr w' := by
            have hbx : Below w3.heap.size w3 wr := by rw [← HB34.out]; exact hS.out.bel
            have := sright_c ⟨s.rows, s.cols, s.wr, s.steps⟩ wr w3.heap.size A' c' hbx.size (hS3.out.below hbx) HF.out
            dsimp only at this
            rw [HN.out] at this
            exact this
          have hac : accS s j = scrB s := by rw [← HN.out]; exact accS_end s
          rw [hac]
          have HB9 := Lib.hid (show Below w.heap.size w wr from HB3.out.trans (hS.out.bel.mono (by rw [HB34.out]; exact HB3.out.size)))
          have HS9 := Lib.hid hS.out.src
          clear hac
          generalize scrB s = x at hR ⊢
          have HR := Lib.hid hR
          clear hR
          cases x with
          | true =>
            go_wp2_with (first | (refine wpList_row rfl 33 _ rfl b3 rfl 33 #[.int .i64 s.rows, .int .i64 s.cols, .int .i64 s.wr, .slice A' j c'] (0, 0) _ HS9.out undSc rfl (HIS1.out _) ?_) | (go_at_call 12; refine HR.out.mono ?_; rintro e w8 ⟨rfl, hb8⟩))
            go_ret
            exact ⟨by kernel_rfl, HB9.out.trans (hb8.mono HB9.out.size)⟩
          | false =>
            go_wp2_with (first | (refine wpList_row rfl 33 _ rfl b3 rfl 33 #[.int .i64 s.rows, .int .i64 s.cols, .int .i64 s.wr, .slice A' j c'] (0, 0) _ HS9.out undSc rfl (HIS1.out _) ?_) | (go_at_call 12; refine HR.out.mono ?_; rintro e w8 ⟨rfl, hb8⟩))
            go_ret
            exact ⟨by kernel_rfl, HB9.out.trans (hb8.mono HB9.out.size)⟩
end Go.Proofs.YtlgfjacjcacmmaaDoor
