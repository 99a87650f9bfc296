/- The walk of the law TreeSame. -/
import Derived.Test.YtggpffipijoddaaDoorAwM
import Derived.Test.YtggpffipijoddaaDoorGtM
import Derived.Test.YtggpffipijoddaaDoorSrSq
import Derived.Test.YtggpffipijoddaaDoorStM
import Derived.Test.YtggpffipijoddaaDoorQbM
namespace Go.Proofs.YtggpffipijoddaaDoor
open Go.RowKit Go.Shelf Go.Sort Go.BigFrame

theorem kid_size {t k : Tr} (h : k ∈ t.l) : k.size < t.size := by
  obtain ⟨d, l⟩ := t
  simp only [Tr.l] at h
  have : ∀ (l : List Tr), k ∈ l → k.size ≤ Tr.sizes l := by
    intro l
    induction l with
    | nil => intro h; cases h
    | cons a l ih =>
      intro h
      simp only [Tr.sizes]
      rcases List.mem_cons.1 h with rfl | h
      · omega
      · have := ih h; omega
  have := this l h
  simp only [Tr.size]; omega
theorem kid_ne {t k : Tr} (h : k ∈ t.l) : sameB t k = false := by
  cases hs : sameB t k with
  | false => rfl
  | true =>
    have e := (sameB_eq t k).1 hs
    have := kid_size h
    rw [← e] at this; omega

set_option maxRecDepth 100000 in
set_option maxHeartbeats 2000000 in
theorem treeSame_walk (a b : Tr) (w : World) (A A' : Option Addr) (c c' : Nat) (hd : a.d.ok) (hs : SlAt w w.heap.size A c a.l) (hd' : b.d.ok) (hs' : SlAt w w.heap.size A' c' b.l) (hz : a.size ≤ 1048576) (hz' : b.size ≤ 1048576) (ht : Tab w) :
    Calls Tryd.prog 4 #[nodeV a.d A a.l.length c, nodeV b.d A' b.l.length c'] w fun e w' => e = .returned (.bool true) ∧ Below w.heap.size w w' := by
  have hGa := fun wx (hx : Below w.heap.size w wx) => great_c a wx w.heap.size A c hd (hs.below hx) hx.size hz
  have hGb := fun wx (hx : Below w.heap.size w wx) => great_c b wx w.heap.size A' c' hd' (hs'.below hx) hx.size hz'
  have hS1 := fun wx (hx : Below w.heap.size w wx) => tsame_c a b wx w.heap.size A A' c c' hd (hs.below hx) hd' (hs'.below hx) hx.size (by omega)
  have hS2 := fun wx (hx : Below w.heap.size w wx) => tsame_c b a wx w.heap.size A' A c' c hd' (hs'.below hx) hd (hs.below hx) hx.size (by omega)
  have hR := fun wx (hx : Below w.heap.size w wx) => rsame_c a b wx w.heap.size A A' c c' hd (hs.below hx) hd' (hs'.below hx) hx.size
  have hK : ∀ (i : Nat) (hi : i < a.l.length), ∃ cs : List Value, (∀ wx, Below w.heap.size w wx → ∃ kb ko, A = some ⟨kb, ko, none⟩ ∧ cs.length = 22 ∧ wx.rangeAt kb (ko + i * 22) cs) ∧ ∀ wx, Below w.heap.size w wx → Calls Tryd.prog 14 #[nodeV a.d A a.l.length c, .agg cs.toArray] wx fun e w' => e = .returned (.bool false) ∧ Below wx.heap.size wx w' := by
    intro i hi
    obtain ⟨kb, ko, hA, hn⟩ := hs.at_ i hi
    obtain ⟨h1, h2, kA, kc, h3, h4⟩ := hn.open_
    obtain ⟨cs, e1, e2, -⟩ := h3.range (fun _ _ => rfl)
    refine ⟨cs, fun wx hx => ?_, fun wx hx => ?_⟩
    · obtain ⟨cs', e3, e4, e5⟩ := h3.range (w' := wx) (fun p hp => hx.cell (by omega))
      obtain rfl : cs' = cs := List.toArray_inj (e3.trans e1.symm)
      exact ⟨kb, ko, hA, e4, e5⟩
    · have := tsame_c a a.l[i] wx w.heap.size A kA c kc hd (hs.below hx) h2 (h4.below hx) hx.size (by omega)
      rw [kid_ne (List.getElem_mem hi)] at this
      rw [e1]
      exact this
  have hsym : sameB b a = sameB a b := by
    cases h1 : sameB a b with
    | true => rw [sameB_eq] at h1; rw [sameB_eq]; exact h1.symm
    | false =>
      cases h2 : sameB b a with
      | false => rfl
      | true => rw [sameB_eq] at h2; rw [(sameB_eq a b).2 h2.symm] at h1; cases h1
  rw [hsym] at hS2
  have hlen : a.l.length ≤ 9223372036854775807 := by have := hs.1; have := hs.2.1; omega
  obtain ⟨al, hal⟩ : ∃ al, al = a.l.length := ⟨_, rfl⟩
  rw [← hal] at hGa hS1 hS2 hR hK hlen ⊢
  have hc21 := (nodeA_all a.d A al c).2.2.2.2.2.2.2.2.2.2.2.2.2.2.2.2.2.2.2.2.2
  obtain ⟨N, hN⟩ : ∃ N, N = nodeA a.d A al c := ⟨_, rfl⟩
  obtain ⟨N', hN'⟩ : ∃ N, N = nodeA b.d A' b.l.length c' := ⟨_, rfl⟩
  have hNs : N.size = 22 := by rw [hN]; rfl
  have hNs' : N'.size = 22 := by rw [hN']; rfl
  rw [← hN] at hc21
  simp only [nodeV, ← hN, ← hN'] at hGa hGb hS1 hS2 hR hK ⊢
  have hinf := infN
  rw [← hNs] at hinf
  have hinf' := infN
  rw [← hNs'] at hinf'
  obtain ⟨ga, hga⟩ : ∃ g, g = greatB a := ⟨_, rfl⟩
  obtain ⟨gb, hgb⟩ : ∃ g, g = greatB b := ⟨_, rfl⟩
  obtain ⟨r, hr⟩ : ∃ r, r = sameB a b := ⟨_, rfl⟩
  rw [← hga] at hGa
  rw [← hgb] at hGb
  rw [← hr] at hS1 hS2 hR
  have HGa := Lib.hid hGa
  have HGb := Lib.hid hGb
  have HS1 := Lib.hid hS1
  have HS2 := Lib.hid hS2
  have HR := Lib.hid hR
  have HK := Lib.hid hK
  have HIN := Lib.hid hinf
  have HIN' := Lib.hid hinf'
  have HT := Lib.hid ht
  obtain ⟨W0, hW0⟩ : ∃ W0, W0 = (w.alloc (.cells N 34)).alloc (.cells N' 34) := ⟨_, rfl⟩
  have hb0 : Below w.heap.size w W0 := by rw [hW0]; exact ((Below.refl _ w).alloc (Nat.le_refl _) _).alloc (by simp) _
  have hsz0 : w.heap.size + 2 ≤ W0.heap.size := by rw [hW0]; simp
  have hk0 : W0.heap[w.heap.size]? = some (.cells N 34) := by rw [hW0]; exact (heapOld _ _ _ (by simp)).trans (heap_alloc_new _ _)
  have hk1 : W0.heap[w.heap.size + 1]? = some (.cells N' 34) := by
    rw [hW0]; have := heap_alloc_new (w.alloc (.cells N 34)) (.cells N' 34); rwa [World.size_alloc] at this
  have HW0 := Lib.hid hW0
  have HK0 := Lib.hid hk0
  have HK1 := Lib.hid hk1
  have HC21 := Lib.hid hc21
  clear hGa hGb hS1 hS2 hR hK hinf hinf' hNs hNs' hN hN' hal hd hs hd' hs' hga hgb hr hW0 hsym ht hk0 hk1 hc21
  have hmono : ∀ wx, Below W0.heap.size W0 wx → Below w.heap.size w wx ∧ wx.heap[w.heap.size]? = some (.cells N 34) ∧ wx.heap[w.heap.size + 1]? = some (.cells N' 34) := fun wx hx =>
    ⟨hb0.trans (hx.mono (by omega)), (hx.block _ (by omega)).trans HK0.out, (hx.block _ (by omega)).trans HK1.out⟩
  have HM := Lib.hid hmono
  clear hmono
  go_enter Tryd.func4, Tryd.ntmps4
  go_wp2_with (fail)
  rw [← HW0.out]
  refine (awake_c W0 (tab_below HT.out hb0)).mono ?_
  rintro e w1 ⟨rfl, hb1⟩
  obtain ⟨hw1, ha1, hn1⟩ := HM.out w1 hb1
  have hi21 : ∀ wx, Below W0.heap.size W0 wx → wx.cell? ⟨w.heap.size, 21, none⟩ = some (.slice A al c) := fun wx hx => by
    rw [Lib.cell_of_heap ((HM.out wx hx).2.1)]; exact HC21.out
  have HI21 := Lib.hid hi21
  clear hi21
  cases ga
  case true =>
    go_wp2_with (first | (refine wpList_row rfl 34 _ rfl w.heap.size rfl 34 N (0, 0) _ ha1 undN rfl HIN.out ?_) | (go_at_call 9; refine (HGa.out _ hw1).mono ?_; rintro e w2 ⟨rfl, hb2⟩))
    go_ret
    exact ⟨rfl, hw1.trans (hb2.mono hw1.size)⟩
  case false =>
    go_wp2_with (first | (refine wpList_row rfl 34 _ rfl w.heap.size rfl 34 N (0, 0) _ ha1 undN rfl HIN.out ?_) | fail)
    refine (HGa.out _ hw1).mono ?_
    rintro e w2 ⟨rfl, hb2⟩
    have hb2 : Below W0.heap.size W0 w2 := hb1.trans (hb2.mono hb1.size)
    obtain ⟨hw2, ha2, hn2⟩ := HM.out w2 hb2
    cases gb
    case true =>
      go_wp2_with (first | (refine wpList_row rfl 34 _ rfl (w.heap.size + 1) rfl 34 N' (0, 0) _ hn2 undN rfl HIN'.out ?_) | (go_at_call 9; refine (HGb.out _ hw2).mono ?_; rintro e w3 ⟨rfl, hb3⟩))
      go_ret
      exact ⟨rfl, hw2.trans (hb3.mono hw2.size)⟩
    case false =>
      go_wp2_with (first | (refine wpList_row rfl 34 _ rfl (w.heap.size + 1) rfl 34 N' (0, 0) _ hn2 undN rfl HIN'.out ?_) | fail)
      refine (HGb.out _ hw2).mono ?_
      rintro e w3 ⟨rfl, hb3⟩
      have hb3 : Below W0.heap.size W0 w3 := hb2.trans (hb3.mono hb2.size)
      clear hw1 ha1 hn1 hw2 ha2 hn2 hb1 hb2
      go_wp2
      go_loopw [5] (fun i wr => ∃ k : Nat, k ≤ al ∧ i = .int .i64 k ∧ Below W0.heap.size W0 wr) (fun i _ => al - (intOf i).toNat)
      case atStart => exact ⟨0, Nat.zero_le _, rfl, hb3⟩
      case round =>
        obtain ⟨k, hk, rfl, hbr⟩ := hrel
        obtain ⟨hwr, har, hnr⟩ := HM.out wr hbr
        have h21 := HI21.out wr hbr
        by_cases hlt : k < al
        · obtain ⟨cs, hrow, hcall⟩ := HK.out k hlt
          obtain ⟨kb, ko, hA, hcl, hrg⟩ := hrow wr hwr
          subst hA
          have hq : ∀ d os, (grow (redrawn wr d) os).cell? ⟨w.heap.size, 21, none⟩ = some (.slice (some ⟨kb, ko, none⟩) al c) := fun d os => cell_regrown h21 d os
          have hcall' : ∀ d os, Calls Tryd.prog 14 #[.agg N, .agg cs.toArray] (grow (redrawn wr d) os) fun e w'' => e = .returned (.bool false) ∧ ∃ p : Regrown, w'' = grow (redrawn wr p.d) p.os := fun d os =>
            Calls.regrown_of (hcall _ (hwr.trans ((below_regrown wr d os).mono hwr.size)))
          have HCL := Lib.hid hcall'
          have HRG := Lib.hid hrg
          have hcl' : Hid ((Tryd.prog.info? 34).map (·.size) = some cs.length) := Lib.hid (by rw [hcl]; exact infN)
          clear hcall hcall' hrow hcl hrg
          have hlt1 : (0 : Int) ≤ k := by omega
          have hlt2 : (k : Int) < al := by omega
          go_wp2
          refine wp_region_quiet_below (by kernel_rfl) (by kernel_rfl) ?_
          repeat (first
            | (go_big_quiet_want; refine quiet_row 34 _ rfl w.heap.size rfl 34 N (0, 0) _ har undN rfl HIN.out ?_; simp only [Act.put, List.setIfInBounds_toArray, List.set_cons_zero, List.set_cons_succ]; go_big_quiet_on)
            | (go_big_quiet_want; refine quiet_mid 34 _ rfl kb (ko + k * 22) rfl cs _ HRG.out undN rfl hcl'.out ?_; simp only [Act.put, List.setIfInBounds_toArray, List.set_cons_zero, List.set_cons_succ]; go_big_quiet_on)
            | go_big_quiet_step (exact HCL.out _ _))
          refine wpQuiet_nil ?_
          rintro w4 ⟨⟨dq, osq⟩, hq4⟩
          have hb4 : Below wr.heap.size wr w4 := by rw [hq4]; exact below_regrown wr dq osq
          have hb4' : Below W0.heap.size W0 w4 := hbr.trans (hb4.mono hbr.size)
          clear hq4 hb4 hq
          go_wp2
          go_roundw
          case rel => exact ⟨k + 1, by omega, by go_num, hb4'⟩
          case measure => simp [intOf]; omega
        · have hge : ¬ (k : Int) < al := by omega
          have hc1 : ∀ d os, Calls Tryd.prog 14 #[.agg N, .agg N'] (grow (redrawn wr d) os) fun e w'' => e = .returned (.bool r) ∧ ∃ p : Regrown, w'' = grow (redrawn wr p.d) p.os := fun d os =>
            Calls.regrown_of (HS1.out _ (hwr.trans ((below_regrown wr d os).mono hwr.size)))
          have hc2 : ∀ d os, Calls Tryd.prog 14 #[.agg N', .agg N] (grow (redrawn wr d) os) fun e w'' => e = .returned (.bool r) ∧ ∃ p : Regrown, w'' = grow (redrawn wr p.d) p.os := fun d os =>
            Calls.regrown_of (HS2.out _ (hwr.trans ((below_regrown wr d os).mono hwr.size)))
          have hc3 : ∀ d os, Calls Tryd.prog 15 #[.agg N, .agg N'] (grow (redrawn wr d) os) fun e w'' => e = .returned (.bool r) ∧ ∃ p : Regrown, w'' = grow (redrawn wr p.d) p.os := fun d os =>
            Calls.regrown_of (HR.out _ (hwr.trans ((below_regrown wr d os).mono hwr.size)))
          have HC1 := Lib.hid hc1
          have HC2 := Lib.hid hc2
          have HC3 := Lib.hid hc3
          clear hc1 hc2 hc3
          cases r
          all_goals
            go_wp2
            refine wp_region_quiet_below (by kernel_rfl) (by kernel_rfl) ?_
            repeat (first
              | (go_big_quiet_want; refine quiet_row 34 _ rfl w.heap.size rfl 34 N (0, 0) _ har undN rfl HIN.out ?_; simp only [Act.put, List.setIfInBounds_toArray, List.set_cons_zero, List.set_cons_succ]; go_big_quiet_on)
              | (go_big_quiet_want; refine quiet_row 34 _ rfl (w.heap.size + 1) rfl 34 N' (0, 0) _ hnr undN rfl HIN'.out ?_; simp only [Act.put, List.setIfInBounds_toArray, List.set_cons_zero, List.set_cons_succ]; go_big_quiet_on)
              | go_big_quiet_step (first | with_reducible exact HC1.out _ _ | with_reducible exact HC2.out _ _ | with_reducible exact HC3.out _ _))
            refine wpQuiet_nil ?_
            rintro w4 ⟨⟨dq, osq⟩, hq4⟩
            have hb4 : Below wr.heap.size wr w4 := by rw [hq4]; exact below_regrown wr dq osq
            clear hq4
            go_wp2
            go_ret
            exact ⟨rfl, hwr.trans (hb4.mono hwr.size)⟩
end Go.Proofs.YtggpffipijoddaaDoor
