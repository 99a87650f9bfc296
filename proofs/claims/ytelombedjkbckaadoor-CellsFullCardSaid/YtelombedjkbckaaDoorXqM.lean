/- CellsFull: the walk. -/
import Derived.Test.YtelombedjkbckaaDoorXhXi
import Derived.Test.YtelombedjkbckaaDoorXnXp
namespace Go.Proofs.YtelombedjkbckaaDoor
open Go Go.RowKit Go.Shelf Go.Maps

theorem zCt_right : rightC zCt = true := by decide +kernel
theorem zCt_vok : zCt.v.ok := by unfold Vl.ok i64; decide
theorem key_val (k : Nat) : (keyAt k).val = .agg #[.int .i64 0, .int .i64 (1 + (k : Int) / 100), .int .i64 0, .int .i64 (1 + (k : Int) % 100)] := by
  simp [keyAt, Ad.val]
/-- the round's Put. -/
theorem putAt_c (p : Nat) (k : Nat) (m : Option Nat) (wx : World) (hk : k < 10000) (h : StAt wx p m k (fullD k)) (hm : m = none → k = 0) :
    Calls Tryd.prog 10 #[.pointer (some ⟨p, 0, none⟩), (keyAt k).val, contV fiveC none 0] wx fun e w' => e = .returned (.int .i64 0) ∧ ∃ g, (m = some g ∨ wx.heap.size ≤ g) ∧ StAt w' p (some g) (k + 1) (fullD (k + 1)) ∧ KeepP p m wx w' := by
  cases m with
  | none =>
    obtain rfl := hm rfl
    refine (put_none wx p 0 (fullD 0) h (keyAt 0) (keyAt_ok hk) (keyAt_is 0) fiveC none 0 rfl five_right five_vok zNd_ok 0 (slAt_nil _ _) (Nat.zero_le _) (by decide)).mono ?_
    rintro e w' ⟨rfl, g, h1, h2, h3⟩
    exact ⟨rfl, g, .inr h1, h2, h3⟩
  | some g =>
    refine (put_some wx p g k (fullD k) h (by omega) (keyAt k) (keyAt_ok hk) (keyAt_is k) fiveC none 0 rfl five_right five_vok zNd_ok 0 (slAt_nil _ _) (Nat.zero_le _) (by decide) false (full_new hk) (.inr (by rw [full_size k (by omega)]; exact hk))).mono ?_
    rintro e w' ⟨rfl, h2, h3⟩
    exact ⟨rfl, g, .inl rfl, h2, h3⟩

set_option maxRecDepth 100000 in
set_option maxHeartbeats 4000000 in
theorem cellsFull_walk (n : Int) (w : World) (h0 : 0 ≤ n) (h1 : n ≤ 255) (ht : Tab w) :
    Calls Tryd.prog 4 #[.int .u8 n] w fun e w' => e = .returned (.bool true) ∧ Below w.heap.size w w' := by
  have haw := awake18_c w ht
  have HAW := Lib.hid haw
  have H0 := Lib.hid h0
  have H1 := Lib.hid h1
  clear haw ht
  go_enter Tryd.func4, Tryd.ntmps4
  go_upto_region 4 with (first | (go_at_call 5; refine HAW.out.mono ?_; rintro e w1 ⟨rfl, hb1⟩) | (go_at_call 9; refine (new_c _).mono ?_; rintro e w2 ⟨rfl, rfl⟩))
  obtain ⟨p, hp⟩ : ∃ p, p = w1.heap.size := ⟨_, rfl⟩
  obtain ⟨W2, hW2⟩ : ∃ W2, W2 = w1.alloc (.cells #[.map none] 58) := ⟨_, rfl⟩
  rw [← hp, ← hW2]
  have hb2 : Below w.heap.size w W2 := by rw [hW2]; exact hb1.alloc hb1.size _
  have hst2 : StAt W2 p none 0 (fullD 0) := ⟨by rw [hW2, hp]; exact heap_alloc_new _ _, rfl⟩
  have hpw : w.heap.size ≤ p := by rw [hp]; exact hb1.size
  have HPW := Lib.hid hpw
  have HST2 := Lib.hid hst2
  have HB2 := Lib.hid hb2
  clear hp hW2 hb1 hpw hst2 hb2 h0 h1
  go_wp2
  go_loopw [10] (fun i wr => ∃ k : Nat, k ≤ 10000 ∧ i = .int .i64 k ∧ ∃ m, (∀ g, m = some g → w.heap.size ≤ g) ∧ (m = none → k = 0) ∧ StAt wr p m k (fullD k) ∧ Below w.heap.size w wr) (fun i _ => 10000 - (intOf i).toNat)
  case atStart => exact ⟨0, Nat.zero_le _, rfl, none, by simp, fun _ => rfl, HST2.out, HB2.out⟩
  case round =>
    obtain ⟨k, hk, rfl, m, hm, hm0, hst, hbr⟩ := hrel
    by_cases hlt : k < 10000
    · have hi : (k : Int) < 10000 := by omega
      have hput := fun wx (hx : StAt wx p m k (fullD k)) => putAt_c p k m wx hlt hx hm0
      rw [key_val] at hput
      have HPUT := Lib.hid hput
      have HST := Lib.hid hst
      have HBR := Lib.hid hbr
      have HM := Lib.hid hm
      clear hput hst hbr hm hm0
      go_wp2_with (first | (go_at_call 11; refine (five_c wr).mono ?_; rintro e x1 ⟨rfl, hx1⟩; have hst1 := Lib.hid (HST.out.below hx1)) | (go_at_call 10; refine (HPUT.out x1 hst1.out).mono ?_; rintro e x2 ⟨rfl, g, hg, hst2, hkp⟩))
      go_roundw
      case measure => simp [intOf]; omega
      case rel =>
        have hb1 := HBR.out.trans (hx1.mono HBR.out.size)
        refine ⟨k + 1, by omega, by go_num, some g, ?_, by simp, hst2, ?_⟩
        · intro g' e
          obtain rfl := Option.some.inj e
          rcases hg with h | h
          · exact HM.out g h
          · exact Nat.le_trans hb1.size h
        · exact hb1.trans (hkp.below HPW.out HM.out hb1.size)
    · obtain rfl : k = 10000 := by omega
      cases m with
      | none => exact absurd (hm0 rfl) (by omega)
      | some g =>
        have hgw := hm g rfl
        clear hm hm0 hlt hk
        have h0 := H0.out
        have h1 := H1.out
        have HN0 := Lib.hid h0
        go_upto_region 12 with (fail)
        have hf1 : ∀ wx, StAt wx p (some g) 10000 (fullD 10000) → Calls Tryd.prog 10 #[.pointer (some ⟨p, 0, none⟩), .agg #[.int .i64 (1 + n), .int .i64 1, .int .i64 0, .int .i64 1], contV fiveC none 0] wx fun e w' => e = .returned (.int .i64 5) ∧ Below wx.heap.size wx w' :=
          fun wx hx => put_full wx p g 10000 (fullD 10000) hx (otherAt n) (otherAt_ok h0 h1) (otherAt_is n) fiveC none 0 rfl five_right five_vok zNd_ok 0 (slAt_nil _ _) (Nat.zero_le _) (by decide) (full_other h0 h1) (by rw [full_size 10000 (by omega)]; exact Nat.le_refl _)
        have he1 : ∀ wx, StAt wx p (some g) 10000 (fullD 10000) → Calls Tryd.prog 10 #[.pointer (some ⟨p, 0, none⟩), .agg #[.int .i64 (1 + n), .int .i64 1, .int .i64 0, .int .i64 1], contV zCt none 0] wx fun e w' => e = .returned (.int .i64 0) ∧ StAt w' p (some g) 10000 (fullD 10000) ∧ KeepP p (some g) wx w' := fun wx hx => by
          have := put_empty wx p g 10000 (fullD 10000) hx (otherAt n) (otherAt_ok h0 h1) (otherAt_is n) zCt none 0 rfl zCt_right zCt_vok zNd_ok 0 (slAt_nil _ _) (Nat.zero_le _) (by decide)
          rw [full_del h0 h1] at this
          exact this
        have hl1 : ∀ wx, StAt wx p (some g) 10000 (fullD 10000) → Calls Tryd.prog 12 #[.pointer (some ⟨p, 0, none⟩)] wx fun e w' => e = .returned (.int .i64 10000) ∧ Below wx.heap.size wx w' := fun wx hx => by
          have := len_c wx p (some g) 10000 (fullD 10000) hx
          rw [full_size 10000 (by omega)] at this
          exact this
        have he2 : ∀ wx, StAt wx p (some g) 10000 (fullD 10000) → Calls Tryd.prog 10 #[.pointer (some ⟨p, 0, none⟩), .agg #[.int .i64 0, .int .i64 (1 + n % 100), .int .i64 0, .int .i64 1], contV zCt none 0] wx fun e w' => e = .returned (.int .i64 0) ∧ StAt w' p (some g) 10000 (d1 n) ∧ KeepP p (some g) wx w' :=
          fun wx hx => put_empty wx p g 10000 (fullD 10000) hx (thereAt n) (thereAt_ok n) (thereAt_is h0) zCt none 0 rfl zCt_right zCt_vok zNd_ok 0 (slAt_nil _ _) (Nat.zero_le _) (by decide)
        have hp1 : ∀ wx, StAt wx p (some g) 10000 (d1 n) → Calls Tryd.prog 10 #[.pointer (some ⟨p, 0, none⟩), .agg #[.int .i64 (1 + n), .int .i64 1, .int .i64 0, .int .i64 1], contV fiveC none 0] wx fun e w' => e = .returned (.int .i64 0) ∧ StAt w' p (some g) 10001 (d2 n) ∧ KeepP p (some g) wx w' :=
          fun wx hx => put_some wx p g 10000 (d1 n) hx (by omega) (otherAt n) (otherAt_ok h0 h1) (otherAt_is n) fiveC none 0 rfl five_right five_vok zNd_ok 0 (slAt_nil _ _) (Nat.zero_le _) (by decide) false (d1_other h0 h1) (.inr (by rw [d1_size h0 h1]; omega))
        have hf2 : ∀ wx, StAt wx p (some g) 10001 (d2 n) → Calls Tryd.prog 10 #[.pointer (some ⟨p, 0, none⟩), .agg #[.int .i64 0, .int .i64 (1 + n % 100), .int .i64 0, .int .i64 1], contV fiveC none 0] wx fun e w' => e = .returned (.int .i64 5) ∧ Below wx.heap.size wx w' :=
          fun wx hx => put_full wx p g 10001 (d2 n) hx (thereAt n) (thereAt_ok n) (thereAt_is h0) fiveC none 0 rfl five_right five_vok zNd_ok 0 (slAt_nil _ _) (Nat.zero_le _) (by decide) (d2_there h0 h1) (by rw [d2_size h0 h1]; exact Nat.le_refl _)
        have hp2 : ∀ wx, StAt wx p (some g) 10001 (d2 n) → Calls Tryd.prog 10 #[.pointer (some ⟨p, 0, none⟩), .agg #[.int .i64 (1 + n), .int .i64 1, .int .i64 0, .int .i64 1], contV fiveC none 0] wx fun e w' => e = .returned (.int .i64 0) ∧ StAt w' p (some g) 10002 (d3 n) ∧ KeepP p (some g) wx w' :=
          fun wx hx => put_some wx p g 10001 (d2 n) hx (by omega) (otherAt n) (otherAt_ok h0 h1) (otherAt_is n) fiveC none 0 rfl five_right five_vok zNd_ok 0 (slAt_nil _ _) (Nat.zero_le _) (by decide) true (d2_other h0 h1) (.inl rfl)
        obtain ⟨qo, hqo⟩ : ∃ q, q = wr.heap.size := ⟨_, rfl⟩
        obtain ⟨qt, hqt⟩ : ∃ q, q = qo + 1 := ⟨_, rfl⟩
        obtain ⟨W5, hW5⟩ : ∃ W, W = (wr.alloc (.cells #[.int .i64 (1 + n), .int .i64 1, .int .i64 0, .int .i64 1] 45)).alloc (.cells #[.int .i64 0, .int .i64 (1 + n % 100), .int .i64 0, .int .i64 1] 45) := ⟨_, rfl⟩
        rw [← hW5, ← hqo, ← hqt]
        have hpl : p < wr.heap.size := (Array.getElem?_eq_some_iff.1 hst.1).1
        have hgl : g < wr.heap.size := by have : wr.ownsMap Tryd.prog 45 heldR g 10000 (fullD 10000) := hst.2; exact this.lt
        have hb5 : Below wr.heap.size wr W5 := by rw [hW5]; exact ((Below.refl _ _).alloc (Nat.le_refl _) _).alloc (by simp) _
        have hq5 : W5.drew.heap[qo]? = some (.cells #[.int .i64 (1 + n), .int .i64 1, .int .i64 0, .int .i64 1] 45) ∧ W5.drew.heap[qt]? = some (.cells #[.int .i64 0, .int .i64 (1 + n % 100), .int .i64 0, .int .i64 1] 45) := by
          have e1 := heap_alloc_new wr (.cells #[.int .i64 (1 + n), .int .i64 1, .int .i64 0, .int .i64 1] 45)
          have e2 := heap_alloc_new (wr.alloc (.cells #[.int .i64 (1 + n), .int .i64 1, .int .i64 0, .int .i64 1] 45)) (.cells #[.int .i64 0, .int .i64 (1 + n % 100), .int .i64 0, .int .i64 1] 45)
          rw [World.size_alloc] at e2
          refine ⟨?_, ?_⟩
          · show W5.heap[qo]? = _
            rw [hW5, hqo, heapOld _ _ _ (by simp)]; exact e1
          · show W5.heap[qt]? = _
            rw [hW5, hqt, hqo]; exact e2
        have HF1 := Lib.hid hf1
        have HE1 := Lib.hid he1
        have HL1 := Lib.hid hl1
        have HE2 := Lib.hid he2
        have HP1 := Lib.hid hp1
        have HF2 := Lib.hid hf2
        have HP2 := Lib.hid hp2
        have HQ5 := Lib.hid hq5
        have HST5 := Lib.hid (show StAt W5.drew p (some g) 10000 (fullD 10000) from (hst.below hb5).below (Below.refl _ _).drew)
        have HB5 := Lib.hid (show Below w.heap.size w W5.drew from (hbr.trans (hb5.mono hbr.size)).drew)
        have HQO := Lib.hid (show qo ≠ p ∧ (some g : Option Nat) ≠ some qo from ⟨by omega, fun e => by have := Option.some.inj e; omega⟩)
        have HQT := Lib.hid (show qt ≠ p ∧ (some g : Option Nat) ≠ some qt from ⟨by omega, fun e => by have := Option.some.inj e; omega⟩)
        have HGW := Lib.hid hgw
        clear hf1 he1 hl1 he2 hp1 hf2 hp2 hq5 hqo hqt hW5 hpl hgl hb5 hst hbr hgw h0 h1
        refine wp_region_held_drew (S := fun wx => wx.heap[qo]? = some (.cells #[.int .i64 (1 + n), .int .i64 1, .int .i64 0, .int .i64 1] 45) ∧ wx.heap[qt]? = some (.cells #[.int .i64 0, .int .i64 (1 + n % 100), .int .i64 0, .int .i64 1] 45)) (by kernel_rfl) HQ5.out (fun hHeld => ?_)
        refine wpAnyH_take (i := 0) (v := (.pointer (some ⟨p, 0, none⟩))) rfl (by kernel_rfl) (by kernel_rfl) (by kernel_rfl) (fun _ _ _ h => h) (Or.inl ⟨by kernel_rfl, fun _ hS => by kernel_rfl⟩) hHeld ?_
        (try simp only [Act.put, List.getElem_toArray, List.getElem_cons_zero, List.setIfInBounds_toArray, List.set_cons_zero, List.set_cons_succ])
        refine wpAnyH_take (i := 1) (v := .agg #[.int .i64 (1 + n), .int .i64 1, .int .i64 0, .int .i64 1]) rfl (by kernel_rfl) (by kernel_rfl) (by kernel_rfl) (fun _ _ _ h => h) (yieldsIf_load_mid (by kernel_rfl) 45 _ rfl qo 0 rfl [.int .i64 (1 + n), .int .i64 1, .int .i64 0, .int .i64 1] _ (fun _ hS => ad_range hS.1) undCell rfl infCell) hHeld ?_
        (try simp only [Act.put, List.getElem_toArray, List.getElem_cons_succ, List.getElem_cons_zero, List.setIfInBounds_toArray, List.set_cons_zero, List.set_cons_succ])
        refine wpAnyH_ready (rs := [2]) (by kernel_rfl) (by simp) ?_
        refine AllReadyH.cons rfl (fun K hK => ?_) AllReadyH.nil
        rw [if_pos (by kernel_rfl)]
        go_simp
        refine (five_c _).mono ?_
        rintro e x1 ⟨rfl, hx1⟩
        try go_simp
        have sx1 := HST5.out.below hx1
        refine hK.out _ _ (⟨(hx1.block qo (Array.getElem?_eq_some_iff.1 hHeld.1).1).trans hHeld.1, (hx1.block qt (Array.getElem?_eq_some_iff.1 hHeld.2).1).trans hHeld.2⟩) (fun hHeld => ?_)
        clear hK K
        (try simp only [Act.put, List.getElem_toArray, List.getElem_cons_succ, List.getElem_cons_zero, List.setIfInBounds_toArray, List.set_cons_zero, List.set_cons_succ])
        refine wpAnyH_ready (rs := [3]) (by kernel_rfl) (by simp) ?_
        refine AllReadyH.cons rfl (fun K hK => ?_) AllReadyH.nil
        rw [if_pos (by kernel_rfl)]
        go_simp
        refine (HF1.out x1 sx1).mono ?_
        rintro e x2 ⟨rfl, hx2⟩
        try go_simp
        have sx2 := sx1.below hx2
        refine hK.out _ _ (⟨(hx2.block qo (Array.getElem?_eq_some_iff.1 hHeld.1).1).trans hHeld.1, (hx2.block qt (Array.getElem?_eq_some_iff.1 hHeld.2).1).trans hHeld.2⟩) (fun hHeld => ?_)
        clear hK K
        (try simp only [Act.put, List.getElem_toArray, List.getElem_cons_succ, List.getElem_cons_zero, List.setIfInBounds_toArray, List.set_cons_zero, List.set_cons_succ])
        refine wpAnyH_take (i := 4) (v := (.bool true)) rfl (by kernel_rfl) (by kernel_rfl) (by kernel_rfl) (fun _ _ _ h => h) (Or.inl ⟨by kernel_rfl, fun _ hS => by kernel_rfl⟩) hHeld ?_
        (try simp only [Act.put, List.getElem_toArray, List.getElem_cons_succ, List.getElem_cons_zero, List.setIfInBounds_toArray, List.set_cons_zero, List.set_cons_succ])
        refine wpAnyH_take (i := 5) (v := (.bool true)) rfl (by kernel_rfl) (by kernel_rfl) (by kernel_rfl) (fun _ _ _ h => h) (Or.inl ⟨by kernel_rfl, fun _ hS => by kernel_rfl⟩) hHeld ?_
        (try simp only [Act.put, List.getElem_toArray, List.getElem_cons_succ, List.getElem_cons_zero, List.setIfInBounds_toArray, List.set_cons_zero, List.set_cons_succ])
        refine wpAnyH_take (i := 6) (v := (.pointer (some ⟨p, 0, none⟩))) rfl (by kernel_rfl) (by kernel_rfl) (by kernel_rfl) (fun _ _ _ h => h) (Or.inl ⟨by kernel_rfl, fun _ hS => by kernel_rfl⟩) hHeld ?_
        (try simp only [Act.put, List.getElem_toArray, List.getElem_cons_succ, List.getElem_cons_zero, List.setIfInBounds_toArray, List.set_cons_zero, List.set_cons_succ])
        refine wpAnyH_take (i := 7) (v := .agg #[.int .i64 (1 + n), .int .i64 1, .int .i64 0, .int .i64 1]) rfl (by kernel_rfl) (by kernel_rfl) (by kernel_rfl) (fun _ _ _ h => h) (yieldsIf_load_mid (by kernel_rfl) 45 _ rfl qo 0 rfl [.int .i64 (1 + n), .int .i64 1, .int .i64 0, .int .i64 1] _ (fun _ hS => ad_range hS.1) undCell rfl infCell) hHeld ?_
        (try simp only [Act.put, List.getElem_toArray, List.getElem_cons_succ, List.getElem_cons_zero, List.setIfInBounds_toArray, List.set_cons_zero, List.set_cons_succ])
        refine wpAnyH_take (i := 8) (v := (contV zCt none 0)) rfl (by kernel_rfl) (by kernel_rfl) (by kernel_rfl) (fun _ _ _ h => h) (Or.inl ⟨by kernel_rfl, fun _ hS => by kernel_rfl⟩) hHeld ?_
        (try simp only [Act.put, List.getElem_toArray, List.getElem_cons_succ, List.getElem_cons_zero, List.setIfInBounds_toArray, List.set_cons_zero, List.set_cons_succ])
        refine wpAnyH_ready (rs := [9]) (by kernel_rfl) (by simp) ?_
        refine AllReadyH.cons rfl (fun K hK => ?_) AllReadyH.nil
        rw [if_pos (by kernel_rfl)]
        go_simp
        refine (HE1.out x2 sx2).mono ?_
        rintro e x3 ⟨rfl, sx3, hx3⟩
        try go_simp
        refine hK.out _ _ (⟨(hx3.block qo (Array.getElem?_eq_some_iff.1 hHeld.1).1 HQO.out.1 HQO.out.2).trans hHeld.1, (hx3.block qt (Array.getElem?_eq_some_iff.1 hHeld.2).1 HQT.out.1 HQT.out.2).trans hHeld.2⟩) (fun hHeld => ?_)
        clear hK K
        (try simp only [Act.put, List.getElem_toArray, List.getElem_cons_succ, List.getElem_cons_zero, List.setIfInBounds_toArray, List.set_cons_zero, List.set_cons_succ])
        refine wpAnyH_take (i := 10) (v := (.bool true)) rfl (by kernel_rfl) (by kernel_rfl) (by kernel_rfl) (fun _ _ _ h => h) (Or.inl ⟨by kernel_rfl, fun _ hS => by kernel_rfl⟩) hHeld ?_
        (try simp only [Act.put, List.getElem_toArray, List.getElem_cons_succ, List.getElem_cons_zero, List.setIfInBounds_toArray, List.set_cons_zero, List.set_cons_succ])
        refine wpAnyH_take (i := 11) (v := (.bool true)) rfl (by kernel_rfl) (by kernel_rfl) (by kernel_rfl) (fun _ _ _ h => h) (Or.inl ⟨by kernel_rfl, fun _ hS => by kernel_rfl⟩) hHeld ?_
        (try simp only [Act.put, List.getElem_toArray, List.getElem_cons_succ, List.getElem_cons_zero, List.setIfInBounds_toArray, List.set_cons_zero, List.set_cons_succ])
        refine wpAnyH_take (i := 12) (v := (.bool true)) rfl (by kernel_rfl) (by kernel_rfl) (by kernel_rfl) (fun _ _ _ h => h) (Or.inl ⟨by kernel_rfl, fun _ hS => by kernel_rfl⟩) hHeld ?_
        (try simp only [Act.put, List.getElem_toArray, List.getElem_cons_succ, List.getElem_cons_zero, List.setIfInBounds_toArray, List.set_cons_zero, List.set_cons_succ])
        refine wpAnyH_take (i := 13) (v := (.pointer (some ⟨p, 0, none⟩))) rfl (by kernel_rfl) (by kernel_rfl) (by kernel_rfl) (fun _ _ _ h => h) (Or.inl ⟨by kernel_rfl, fun _ hS => by kernel_rfl⟩) hHeld ?_
        (try simp only [Act.put, List.getElem_toArray, List.getElem_cons_succ, List.getElem_cons_zero, List.setIfInBounds_toArray, List.set_cons_zero, List.set_cons_succ])
        refine wpAnyH_ready (rs := [14]) (by kernel_rfl) (by simp) ?_
        refine AllReadyH.cons rfl (fun K hK => ?_) AllReadyH.nil
        rw [if_pos (by kernel_rfl)]
        go_simp
        refine (HL1.out x3 sx3).mono ?_
        rintro e x4 ⟨rfl, hx4⟩
        try go_simp
        have sx4 := sx3.below hx4
        refine hK.out _ _ (⟨(hx4.block qo (Array.getElem?_eq_some_iff.1 hHeld.1).1).trans hHeld.1, (hx4.block qt (Array.getElem?_eq_some_iff.1 hHeld.2).1).trans hHeld.2⟩) (fun hHeld => ?_)
        clear hK K
        (try simp only [Act.put, List.getElem_toArray, List.getElem_cons_succ, List.getElem_cons_zero, List.setIfInBounds_toArray, List.set_cons_zero, List.set_cons_succ])
        refine wpAnyH_take (i := 15) (v := (.bool true)) rfl (by kernel_rfl) (by kernel_rfl) (by kernel_rfl) (fun _ _ _ h => h) (Or.inl ⟨by kernel_rfl, fun _ hS => by kernel_rfl⟩) hHeld ?_
        (try simp only [Act.put, List.getElem_toArray, List.getElem_cons_succ, List.getElem_cons_zero, List.setIfInBounds_toArray, List.set_cons_zero, List.set_cons_succ])
        refine wpAnyH_take (i := 16) (v := (.bool true)) rfl (by kernel_rfl) (by kernel_rfl) (by kernel_rfl) (fun _ _ _ h => h) (Or.inl ⟨by kernel_rfl, fun _ hS => by kernel_rfl⟩) hHeld ?_
        (try simp only [Act.put, List.getElem_toArray, List.getElem_cons_succ, List.getElem_cons_zero, List.setIfInBounds_toArray, List.set_cons_zero, List.set_cons_succ])
        refine wpAnyH_take (i := 17) (v := (.bool true)) rfl (by kernel_rfl) (by kernel_rfl) (by kernel_rfl) (fun _ _ _ h => h) (Or.inl ⟨by kernel_rfl, fun _ hS => by kernel_rfl⟩) hHeld ?_
        (try simp only [Act.put, List.getElem_toArray, List.getElem_cons_succ, List.getElem_cons_zero, List.setIfInBounds_toArray, List.set_cons_zero, List.set_cons_succ])
        refine wpAnyH_take (i := 18) (v := (.pointer (some ⟨p, 0, none⟩))) rfl (by kernel_rfl) (by kernel_rfl) (by kernel_rfl) (fun _ _ _ h => h) (Or.inl ⟨by kernel_rfl, fun _ hS => by kernel_rfl⟩) hHeld ?_
        (try simp only [Act.put, List.getElem_toArray, List.getElem_cons_succ, List.getElem_cons_zero, List.setIfInBounds_toArray, List.set_cons_zero, List.set_cons_succ])
        refine wpAnyH_take (i := 19) (v := .agg #[.int .i64 0, .int .i64 (1 + n % 100), .int .i64 0, .int .i64 1]) rfl (by kernel_rfl) (by kernel_rfl) (by kernel_rfl) (fun _ _ _ h => h) (yieldsIf_load_mid (by kernel_rfl) 45 _ rfl qt 0 rfl [.int .i64 0, .int .i64 (1 + n % 100), .int .i64 0, .int .i64 1] _ (fun _ hS => ad_range hS.2) undCell rfl infCell) hHeld ?_
        (try simp only [Act.put, List.getElem_toArray, List.getElem_cons_succ, List.getElem_cons_zero, List.setIfInBounds_toArray, List.set_cons_zero, List.set_cons_succ])
        refine wpAnyH_take (i := 20) (v := (contV zCt none 0)) rfl (by kernel_rfl) (by kernel_rfl) (by kernel_rfl) (fun _ _ _ h => h) (Or.inl ⟨by kernel_rfl, fun _ hS => by kernel_rfl⟩) hHeld ?_
        (try simp only [Act.put, List.getElem_toArray, List.getElem_cons_succ, List.getElem_cons_zero, List.setIfInBounds_toArray, List.set_cons_zero, List.set_cons_succ])
        refine wpAnyH_ready (rs := [21]) (by kernel_rfl) (by simp) ?_
        refine AllReadyH.cons rfl (fun K hK => ?_) AllReadyH.nil
        rw [if_pos (by kernel_rfl)]
        go_simp
        refine (HE2.out x4 sx4).mono ?_
        rintro e x5 ⟨rfl, sx5, hx5⟩
        try go_simp
        refine hK.out _ _ (⟨(hx5.block qo (Array.getElem?_eq_some_iff.1 hHeld.1).1 HQO.out.1 HQO.out.2).trans hHeld.1, (hx5.block qt (Array.getElem?_eq_some_iff.1 hHeld.2).1 HQT.out.1 HQT.out.2).trans hHeld.2⟩) (fun hHeld => ?_)
        clear hK K
        (try simp only [Act.put, List.getElem_toArray, List.getElem_cons_succ, List.getElem_cons_zero, List.setIfInBounds_toArray, List.set_cons_zero, List.set_cons_succ])
        refine wpAnyH_take (i := 22) (v := (.bool true)) rfl (by kernel_rfl) (by kernel_rfl) (by kernel_rfl) (fun _ _ _ h => h) (Or.inl ⟨by kernel_rfl, fun _ hS => by kernel_rfl⟩) hHeld ?_
        (try simp only [Act.put, List.getElem_toArray, List.getElem_cons_succ, List.getElem_cons_zero, List.setIfInBounds_toArray, List.set_cons_zero, List.set_cons_succ])
        refine wpAnyH_take (i := 23) (v := (.bool true)) rfl (by kernel_rfl) (by kernel_rfl) (by kernel_rfl) (fun _ _ _ h => h) (Or.inl ⟨by kernel_rfl, fun _ hS => by kernel_rfl⟩) hHeld ?_
        (try simp only [Act.put, List.getElem_toArray, List.getElem_cons_succ, List.getElem_cons_zero, List.setIfInBounds_toArray, List.set_cons_zero, List.set_cons_succ])
        refine wpAnyH_take (i := 24) (v := (.bool true)) rfl (by kernel_rfl) (by kernel_rfl) (by kernel_rfl) (fun _ _ _ h => h) (Or.inl ⟨by kernel_rfl, fun _ hS => by kernel_rfl⟩) hHeld ?_
        (try simp only [Act.put, List.getElem_toArray, List.getElem_cons_succ, List.getElem_cons_zero, List.setIfInBounds_toArray, List.set_cons_zero, List.set_cons_succ])
        refine wpAnyH_take (i := 25) (v := (.pointer (some ⟨p, 0, none⟩))) rfl (by kernel_rfl) (by kernel_rfl) (by kernel_rfl) (fun _ _ _ h => h) (Or.inl ⟨by kernel_rfl, fun _ hS => by kernel_rfl⟩) hHeld ?_
        (try simp only [Act.put, List.getElem_toArray, List.getElem_cons_succ, List.getElem_cons_zero, List.setIfInBounds_toArray, List.set_cons_zero, List.set_cons_succ])
        refine wpAnyH_take (i := 26) (v := .agg #[.int .i64 (1 + n), .int .i64 1, .int .i64 0, .int .i64 1]) rfl (by kernel_rfl) (by kernel_rfl) (by kernel_rfl) (fun _ _ _ h => h) (yieldsIf_load_mid (by kernel_rfl) 45 _ rfl qo 0 rfl [.int .i64 (1 + n), .int .i64 1, .int .i64 0, .int .i64 1] _ (fun _ hS => ad_range hS.1) undCell rfl infCell) hHeld ?_
        (try simp only [Act.put, List.getElem_toArray, List.getElem_cons_succ, List.getElem_cons_zero, List.setIfInBounds_toArray, List.set_cons_zero, List.set_cons_succ])
        refine wpAnyH_ready (rs := [27]) (by kernel_rfl) (by simp) ?_
        refine AllReadyH.cons rfl (fun K hK => ?_) AllReadyH.nil
        rw [if_pos (by kernel_rfl)]
        go_simp
        refine (five_c x5).mono ?_
        rintro e x6 ⟨rfl, hx6⟩
        try go_simp
        have sx6 := sx5.below hx6
        refine hK.out _ _ (⟨(hx6.block qo (Array.getElem?_eq_some_iff.1 hHeld.1).1).trans hHeld.1, (hx6.block qt (Array.getElem?_eq_some_iff.1 hHeld.2).1).trans hHeld.2⟩) (fun hHeld => ?_)
        clear hK K
        (try simp only [Act.put, List.getElem_toArray, List.getElem_cons_succ, List.getElem_cons_zero, List.setIfInBounds_toArray, List.set_cons_zero, List.set_cons_succ])
        refine wpAnyH_ready (rs := [28]) (by kernel_rfl) (by simp) ?_
        refine AllReadyH.cons rfl (fun K hK => ?_) AllReadyH.nil
        rw [if_pos (by kernel_rfl)]
        go_simp
        refine (HP1.out x6 sx6).mono ?_
        rintro e x7 ⟨rfl, sx7, hx7⟩
        try go_simp
        refine hK.out _ _ (⟨(hx7.block qo (Array.getElem?_eq_some_iff.1 hHeld.1).1 HQO.out.1 HQO.out.2).trans hHeld.1, (hx7.block qt (Array.getElem?_eq_some_iff.1 hHeld.2).1 HQT.out.1 HQT.out.2).trans hHeld.2⟩) (fun hHeld => ?_)
        clear hK K
        (try simp only [Act.put, List.getElem_toArray, List.getElem_cons_succ, List.getElem_cons_zero, List.setIfInBounds_toArray, List.set_cons_zero, List.set_cons_succ])
        refine wpAnyH_take (i := 29) (v := (.bool true)) rfl (by kernel_rfl) (by kernel_rfl) (by kernel_rfl) (fun _ _ _ h => h) (Or.inl ⟨by kernel_rfl, fun _ hS => by kernel_rfl⟩) hHeld ?_
        (try simp only [Act.put, List.getElem_toArray, List.getElem_cons_succ, List.getElem_cons_zero, List.setIfInBounds_toArray, List.set_cons_zero, List.set_cons_succ])
        refine wpAnyH_take (i := 30) (v := (.bool true)) rfl (by kernel_rfl) (by kernel_rfl) (by kernel_rfl) (fun _ _ _ h => h) (Or.inl ⟨by kernel_rfl, fun _ hS => by kernel_rfl⟩) hHeld ?_
        (try simp only [Act.put, List.getElem_toArray, List.getElem_cons_succ, List.getElem_cons_zero, List.setIfInBounds_toArray, List.set_cons_zero, List.set_cons_succ])
        refine wpAnyH_take (i := 31) (v := (.bool true)) rfl (by kernel_rfl) (by kernel_rfl) (by kernel_rfl) (fun _ _ _ h => h) (Or.inl ⟨by kernel_rfl, fun _ hS => by kernel_rfl⟩) hHeld ?_
        (try simp only [Act.put, List.getElem_toArray, List.getElem_cons_succ, List.getElem_cons_zero, List.setIfInBounds_toArray, List.set_cons_zero, List.set_cons_succ])
        refine wpAnyH_take (i := 32) (v := (.pointer (some ⟨p, 0, none⟩))) rfl (by kernel_rfl) (by kernel_rfl) (by kernel_rfl) (fun _ _ _ h => h) (Or.inl ⟨by kernel_rfl, fun _ hS => by kernel_rfl⟩) hHeld ?_
        (try simp only [Act.put, List.getElem_toArray, List.getElem_cons_succ, List.getElem_cons_zero, List.setIfInBounds_toArray, List.set_cons_zero, List.set_cons_succ])
        refine wpAnyH_take (i := 33) (v := .agg #[.int .i64 0, .int .i64 (1 + n % 100), .int .i64 0, .int .i64 1]) rfl (by kernel_rfl) (by kernel_rfl) (by kernel_rfl) (fun _ _ _ h => h) (yieldsIf_load_mid (by kernel_rfl) 45 _ rfl qt 0 rfl [.int .i64 0, .int .i64 (1 + n % 100), .int .i64 0, .int .i64 1] _ (fun _ hS => ad_range hS.2) undCell rfl infCell) hHeld ?_
        (try simp only [Act.put, List.getElem_toArray, List.getElem_cons_succ, List.getElem_cons_zero, List.setIfInBounds_toArray, List.set_cons_zero, List.set_cons_succ])
        refine wpAnyH_ready (rs := [34]) (by kernel_rfl) (by simp) ?_
        refine AllReadyH.cons rfl (fun K hK => ?_) AllReadyH.nil
        rw [if_pos (by kernel_rfl)]
        go_simp
        refine (five_c x7).mono ?_
        rintro e x8 ⟨rfl, hx8⟩
        try go_simp
        have sx8 := sx7.below hx8
        refine hK.out _ _ (⟨(hx8.block qo (Array.getElem?_eq_some_iff.1 hHeld.1).1).trans hHeld.1, (hx8.block qt (Array.getElem?_eq_some_iff.1 hHeld.2).1).trans hHeld.2⟩) (fun hHeld => ?_)
        clear hK K
        (try simp only [Act.put, List.getElem_toArray, List.getElem_cons_succ, List.getElem_cons_zero, List.setIfInBounds_toArray, List.set_cons_zero, List.set_cons_succ])
        refine wpAnyH_ready (rs := [35]) (by kernel_rfl) (by simp) ?_
        refine AllReadyH.cons rfl (fun K hK => ?_) AllReadyH.nil
        rw [if_pos (by kernel_rfl)]
        go_simp
        refine (HF2.out x8 sx8).mono ?_
        rintro e x9 ⟨rfl, hx9⟩
        try go_simp
        have sx9 := sx8.below hx9
        refine hK.out _ _ (⟨(hx9.block qo (Array.getElem?_eq_some_iff.1 hHeld.1).1).trans hHeld.1, (hx9.block qt (Array.getElem?_eq_some_iff.1 hHeld.2).1).trans hHeld.2⟩) (fun hHeld => ?_)
        clear hK K
        (try simp only [Act.put, List.getElem_toArray, List.getElem_cons_succ, List.getElem_cons_zero, List.setIfInBounds_toArray, List.set_cons_zero, List.set_cons_succ])
        refine wpAnyH_take (i := 36) (v := (.bool true)) rfl (by kernel_rfl) (by kernel_rfl) (by kernel_rfl) (fun _ _ _ h => h) (Or.inl ⟨by kernel_rfl, fun _ hS => by kernel_rfl⟩) hHeld ?_
        (try simp only [Act.put, List.getElem_toArray, List.getElem_cons_succ, List.getElem_cons_zero, List.setIfInBounds_toArray, List.set_cons_zero, List.set_cons_succ])
        refine wpAnyH_take (i := 37) (v := (.bool true)) rfl (by kernel_rfl) (by kernel_rfl) (by kernel_rfl) (fun _ _ _ h => h) (Or.inl ⟨by kernel_rfl, fun _ hS => by kernel_rfl⟩) hHeld ?_
        (try simp only [Act.put, List.getElem_toArray, List.getElem_cons_succ, List.getElem_cons_zero, List.setIfInBounds_toArray, List.set_cons_zero, List.set_cons_succ])
        refine wpAnyH_take (i := 38) (v := (.bool true)) rfl (by kernel_rfl) (by kernel_rfl) (by kernel_rfl) (fun _ _ _ h => h) (Or.inl ⟨by kernel_rfl, fun _ hS => by kernel_rfl⟩) hHeld ?_
        (try simp only [Act.put, List.getElem_toArray, List.getElem_cons_succ, List.getElem_cons_zero, List.setIfInBounds_toArray, List.set_cons_zero, List.set_cons_succ])
        refine wpAnyH_take (i := 39) (v := (.pointer (some ⟨p, 0, none⟩))) rfl (by kernel_rfl) (by kernel_rfl) (by kernel_rfl) (fun _ _ _ h => h) (Or.inl ⟨by kernel_rfl, fun _ hS => by kernel_rfl⟩) hHeld ?_
        (try simp only [Act.put, List.getElem_toArray, List.getElem_cons_succ, List.getElem_cons_zero, List.setIfInBounds_toArray, List.set_cons_zero, List.set_cons_succ])
        refine wpAnyH_take (i := 40) (v := .agg #[.int .i64 (1 + n), .int .i64 1, .int .i64 0, .int .i64 1]) rfl (by kernel_rfl) (by kernel_rfl) (by kernel_rfl) (fun _ _ _ h => h) (yieldsIf_load_mid (by kernel_rfl) 45 _ rfl qo 0 rfl [.int .i64 (1 + n), .int .i64 1, .int .i64 0, .int .i64 1] _ (fun _ hS => ad_range hS.1) undCell rfl infCell) hHeld ?_
        (try simp only [Act.put, List.getElem_toArray, List.getElem_cons_succ, List.getElem_cons_zero, List.setIfInBounds_toArray, List.set_cons_zero, List.set_cons_succ])
        refine wpAnyH_ready (rs := [41]) (by kernel_rfl) (by simp) ?_
        refine AllReadyH.cons rfl (fun K hK => ?_) AllReadyH.nil
        rw [if_pos (by kernel_rfl)]
        go_simp
        refine (five_c x9).mono ?_
        rintro e x10 ⟨rfl, hx10⟩
        try go_simp
        have sx10 := sx9.below hx10
        refine hK.out _ _ (⟨(hx10.block qo (Array.getElem?_eq_some_iff.1 hHeld.1).1).trans hHeld.1, (hx10.block qt (Array.getElem?_eq_some_iff.1 hHeld.2).1).trans hHeld.2⟩) (fun hHeld => ?_)
        clear hK K
        (try simp only [Act.put, List.getElem_toArray, List.getElem_cons_succ, List.getElem_cons_zero, List.setIfInBounds_toArray, List.set_cons_zero, List.set_cons_succ])
        refine wpAnyH_ready (rs := [42]) (by kernel_rfl) (by simp) ?_
        refine AllReadyH.cons rfl (fun K hK => ?_) AllReadyH.nil
        rw [if_pos (by kernel_rfl)]
        go_simp
        refine (HP2.out x10 sx10).mono ?_
        rintro e x11 ⟨rfl, sx11, hx11⟩
        try go_simp
        refine hK.out _ _ (⟨(hx11.block qo (Array.getElem?_eq_some_iff.1 hHeld.1).1 HQO.out.1 HQO.out.2).trans hHeld.1, (hx11.block qt (Array.getElem?_eq_some_iff.1 hHeld.2).1 HQT.out.1 HQT.out.2).trans hHeld.2⟩) (fun hHeld => ?_)
        clear hK K
        (try simp only [Act.put, List.getElem_toArray, List.getElem_cons_succ, List.getElem_cons_zero, List.setIfInBounds_toArray, List.set_cons_zero, List.set_cons_succ])
        refine wpAnyH_take (i := 43) (v := (.bool true)) rfl (by kernel_rfl) (by kernel_rfl) (by kernel_rfl) (fun _ _ _ h => h) (Or.inl ⟨by kernel_rfl, fun _ hS => by kernel_rfl⟩) hHeld ?_
        (try simp only [Act.put, List.getElem_toArray, List.getElem_cons_succ, List.getElem_cons_zero, List.setIfInBounds_toArray, List.set_cons_zero, List.set_cons_succ])
        refine wpAnyH_take (i := 44) (v := (.bool true)) rfl (by kernel_rfl) (by kernel_rfl) (by kernel_rfl) (fun _ _ _ h => h) (Or.inl ⟨by kernel_rfl, fun _ hS => by kernel_rfl⟩) hHeld ?_
        (try simp only [Act.put, List.getElem_toArray, List.getElem_cons_succ, List.getElem_cons_zero, List.setIfInBounds_toArray, List.set_cons_zero, List.set_cons_succ])
        refine wpAnyH_take (i := 45) (v := (.bool true)) rfl (by kernel_rfl) (by kernel_rfl) (by kernel_rfl) (fun _ _ _ h => h) (Or.inl ⟨by kernel_rfl, fun _ hS => by kernel_rfl⟩) hHeld ?_
        (try simp only [Act.put, List.getElem_toArray, List.getElem_cons_succ, List.getElem_cons_zero, List.setIfInBounds_toArray, List.set_cons_zero, List.set_cons_succ])
        refine wpAnyH_done (by kernel_rfl) ?_ _
        go_wp2
        go_ret
        refine ⟨rfl, ?_⟩
        have kb : ∀ {a b : World}, Below w.heap.size w a → KeepP p (some g) a b → Below w.heap.size w b := fun ha hk => ha.trans (hk.below HPW.out (fun b e => by obtain rfl := Option.some.inj e; exact HGW.out) ha.size)
        have bb : ∀ {a b : World}, Below w.heap.size w a → Below a.heap.size a b → Below w.heap.size w b := fun ha hk => ha.trans (hk.mono ha.size)
        exact kb (bb (bb (bb (kb (bb (kb (bb (kb (bb (bb HB5.out hx1) hx2) hx3) hx4) hx5) hx6) hx7) hx8) hx9) hx10) hx11
end Go.Proofs.YtelombedjkbckaaDoor
