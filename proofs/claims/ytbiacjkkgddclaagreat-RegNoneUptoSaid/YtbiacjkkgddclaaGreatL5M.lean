/- law 37's Same. -/
import Derived.Test.YtbiacjkkgddclaaGreatL3L4
import Derived.Test.YtbiacjkkgddclaaGreatL1K5L2
namespace Go.Proofs.YtbiacjkkgddclaaGreat
set_option linter.unusedSimpArgs false
set_option linter.unusedVariables false
open Go Go.RowKit Go.Shelf Go.Maps

/-- what a register answers, wherever it is asked. -/
structure RegAt (w : World) (pv : Value) (M : List Wr) : Prop where
  ids : ∀ wx, Below w.heap.size w wx → Calls Tryz.prog 14 #[pv] wx (IdsP wx (idsW M))
  shown : ∀ wx, Below w.heap.size w wx → ∀ gv g, GoneV wx gv g → Calls Tryz.prog 15 #[pv, gv] wx (IdsP wx (idsW (standW M g)))
  get : ∀ wx, Below w.heap.size w wx → ∀ gv g, GoneV wx gv g → Calls Tryz.prog 17 #[pv, gv] wx (GetP wx (standW M g))
  len : ∀ wx, Below w.heap.size w wx → Calls Tryz.prog 44 #[pv] wx (fun e w' => e = .returned (.int .i64 M.length) ∧ Below wx.heap.size wx w')
theorem RgM.regAt {w : World} {p n : Nat} {M : List Wr} {Z : Nat → Prop} (h : RgM w p n M Z) (hM : M.length ≤ 1000) : RegAt w (.pointer (some ⟨p, 0, none⟩)) M :=
  ⟨fun wx hx => ids_c (h.below hx).z (by omega), fun wx hx gv g hg => shown_c (h.below hx).z (by omega) gv g hg, fun wx hx gv g hg => get_c (h.below hx).z (by omega) gv g hg, fun wx hx => len_c (h.below hx).z⟩
theorem lastC_take {S : List Wr} {i : Nat} (hi : i < S.length) : lastC (S.take (i + 1)) = S[i].x := by
  unfold lastC
  rw [List.take_succ_eq_append_getElem hi, List.getLast?_append]
  rfl
def SaI (w10 : World) (g13 : Nat) (S : List Wr) (n : Nat) (iv : Value) (wr : World) : Prop :=
  ∃ i : Nat, i ≤ n ∧ iv = .int .i64 i ∧ ∃ A' c', Hid (Below w10.heap.size w10 wr ∧ wr.heap[g13]? = some (.cells (contA (lastC (S.take i)) A' c') 37) ∧ SlAt wr wr.heap.size A' c' (lastC (S.take i)).t.l)
set_option maxRecDepth 100000 in
set_option maxHeartbeats 16000000 in
theorem same37L_c {w : World} {pv : Value} {M : List Wr} (hr : RegAt w pv M) {G : Nat → Prop} {B c : Nat} {A : Option Addr} (hrow : RowW w G (fun k => k < B) A c M) (hG : ∀ k, G k → k < w.heap.size) (hB : B ≤ w.heap.size) (hM : M.length ≤ 1000) (hfit : ∀ m ∈ M, m.x.t.d.ok ∧ m.o.length ≤ 100000) {A1 : Option Addr} {c1 : Nat} {gl0 : List Ik} (hgl : IkG w (fun k => k < w.heap.size) A1 c1 gl0) :
    Calls Tryz.prog 20 #[pv, .slice A M.length c, .slice A1 gl0.length c1] w fun e w' => e = .returned (.int .i64 1) ∧ Below w.heap.size w w' := by
  obtain ⟨n, hn⟩ : ∃ n, n = M.length := ⟨_, rfl⟩
  obtain ⟨kg, hkg⟩ : ∃ n, n = gl0.length := ⟨_, rfl⟩
  obtain ⟨S, hS⟩ : ∃ S, S = standW M (fun x => decide (x ∈ gl0)) := ⟨_, rfl⟩
  obtain ⟨ns, hns⟩ : ∃ n, n = S.length := ⟨_, rfl⟩
  obtain ⟨no, hno⟩ : ∃ n, n = ns - 1 := ⟨_, rfl⟩
  have hSM : ∀ m ∈ S, m ∈ M := fun m hm => by rw [hS] at hm; exact (stand_sub.1 hm).1
  have hnsn : ns ≤ n := by rw [hns, hn, hS]; exact List.length_filter_le _ _
  have hn1000 : n ≤ 1000 := by rw [hn]; exact hM
  have hns1000 : ns ≤ 1000 := by omega
  have hmx : ((no : Int) != max ((ns : Int) - 1) 0) = false := by
    have e : (no : Int) = max ((ns : Int) - 1) 0 := by omega
    rw [← e]; simp
  have hidl : (idsW M).length = n := by rw [hn]; unfold idsW; rw [List.length_map]
  have hidl2 : (idsW S).length = ns := by rw [hns]; unfold idsW; rw [List.length_map]
  have hst : ∀ wx, Below w.heap.size w wx → Calls Tryz.prog 43 #[.slice A n c, .slice A1 kg c1] wx (RstP wx B S) := fun wx hx => by
    rw [hS]
    exact rstand37_c (G := G) (B := B) (B1 := w.heap.size) (hrow.keep (fun k hk => ⟨hx.block k (hG k hk), hk⟩) (fun k hk => ⟨hx.block k (Nat.lt_of_lt_of_le hk hB), hk⟩)) (fun k hk => Nat.lt_of_lt_of_le (hG k hk) hx.size) (Nat.le_trans hB hx.size) hn hn1000 (hgl.below hx) hx.size hkg
  have hld : (lastC S).t.d.ok := by
    rcases Nat.eq_zero_or_pos S.length with h | h
    · rw [List.length_eq_zero_iff.1 h]; exact zNd_ok
    · obtain ⟨m, -, -, hm, e⟩ := last_mem (show S.length = (S.length - 1) + 1 by omega)
      rw [e]
      exact (hfit m (hSM m hm)).1
  have hfitS : ∀ m ∈ S, m.x.t.d.ok ∧ m.o.length ≤ 100000 := fun m hm => hfit m (hSM m hm)
  have hrowM : ∀ i (hi : i < M.length), ∃ gl of, A = some ⟨gl, of, none⟩ ∧ ∀ wz, Below w.heap.size w wz → wz.rangeAt gl (of + i * 32) M[i].id.cs := fun i hi => by
    obtain ⟨gl, of, e, hg, hr⟩ := hrow.2.2.resolve_left (fun e => by rw [e] at hi; exact absurd hi (Nat.not_lt_zero _))
    obtain ⟨A1, c1, Ao1, co1, q1, -, -⟩ := hr i hi
    exact ⟨gl, of, e, fun wz hz j v hv => (World.cell?_of_block (a := ⟨gl, of + i * 32 + j, none⟩) (hz.block gl (hG gl hg))).trans ((wr_row3 q1).1 j v hv)⟩
  have hcc : n ≤ c ∧ c ≤ 9223372036854775807 := ⟨by rw [hn]; exact hrow.1, hrow.2.1⟩
  have hc1 := hcc.1
  have hc2 := hcc.2
  have HRG := Lib.hid hr
  have HST := Lib.hid hst
  have HINC := Lib.hid (fun wx A n c => in_c wx A n c)
  have HGL := Lib.hid hgl
  have HKG := Lib.hid hkg
  have HSE := Lib.hid hS
  have HN := Lib.hid (And.intro hn (And.intro hns hno))
  have HIDL := Lib.hid (And.intro hidl hidl2)
  have HFS := Lib.hid hfitS
  have HLD := Lib.hid hld
  have HRM := Lib.hid hrowM
  have HBW := Lib.hid hB
  have HIK := Lib.hid (show ∀ x : Ik, (Tryz.prog.info? 28).map (·.size) = some x.cs.length from fun _ => ikInfo)
  have HIC := Lib.hid (show ∀ (x : Ct) (A : Option Addr) (c : Nat), (Tryz.prog.info? 37).map (·.size) = some (contA x A c).size ∧ (Tryz.prog.info? 37).map (·.size) = some (contA x A c).toList.length ∧ (contA zCt none 0).size = (contA x A c).size ∧ (contA x A c).all (·.oneCell') = true from fun x A c => ⟨infC, infC, rfl, cont_one _ _ _⟩)
  rw [← hn, ← hkg]
  clear hr hst hgl hkg hS hn hns hno hidl hidl2 hfitS hld hrowM hB hcc hrow hG hM hfit hSM
  go_enter Tryz.func20, Tryz.ntmps20
  go_upto_region 2 with (first | (go_at_call 14; refine (HRG.out.ids w (Below.refl _ _)).mono ?_; rintro e w2 ⟨A2, c2, rfl, hb2, ho2⟩; have H2 := Lib.hid (And.intro hb2 ho2); clear hb2 ho2) | (go_at_call 16; refine (HINC.out _ _ _ _).mono ?_; rintro e w3 ⟨rfl, hin⟩; have HIN3 := Lib.hid hin; clear hin) | (go_at_call 15; refine (HRG.out.shown w3 (in_at HGL.out HKG.out H2.out.1 HIN3.out).2 _ _ (in_at HGL.out HKG.out H2.out.1 HIN3.out).1).mono ?_; rintro e w4 ⟨A4, c4, rfl, hb4, ho4⟩; have H4 := Lib.hid (And.intro ((in_at HGL.out HKG.out H2.out.1 HIN3.out).2.trans (hb4.mono (in_at HGL.out HKG.out H2.out.1 HIN3.out).2.size)) (And.intro hb4 ho4)); clear hb4 ho4) | (go_at_call 43; refine (HST.out w4 H4.out.1).mono ?_; rintro e w5 ⟨A5, c5, rfl, hb5, hr5⟩; have H5 := Lib.hid (And.intro (H4.out.1.trans (hb5.mono H4.out.1.size)) (And.intro hb5 hr5)); clear hb5 hr5) | fail)
  rw [HIDL.out.1, ← HSE.out, HIDL.out.2, ← HN.out.2.1]
  go_upto_region 3 with (first | (go_at_call 16; refine (HINC.out _ _ _ _).mono ?_; rintro e w6 ⟨rfl, hin⟩; have HIN6 := Lib.hid hin; clear hin) | (go_at_call 17; refine (HRG.out.get w6 (in_at HGL.out HKG.out H5.out.1 HIN6.out).2 _ _ (in_at HGL.out HKG.out H5.out.1 HIN6.out).1).mono ?_; rw [← HSE.out]; rintro e w7 ⟨A7, c7, Ao7, co7, rfl, hs, hr, hb⟩; have H7 := Lib.hid (And.intro (H5.out.1.trans ((show Below w5.heap.size w5 w7 from by have h : Below w5.heap.size w5 w6 := (by rw [HIN6.out]; exact (bel1 _ _).1); exact h.trans (hb.mono h.size)).mono H5.out.1.size)) (And.intro (show Below w5.heap.size w5 w7 from by have h : Below w5.heap.size w5 w6 := (by rw [HIN6.out]; exact (bel1 _ _).1); exact h.trans (hb.mono h.size)) (And.intro hs hr))); clear hs hr hb; obtain ⟨CA7, hCA⟩ : ∃ C, C = contA (lastC S) A7 c7 := ⟨_, rfl⟩; have hia := HIC.out (lastC S) A7 c7; rw [← hCA] at hia ⊢; have HCA7 := Lib.hid (And.intro hCA hia); clear hCA hia) | (refine wpList_contVar rfl rfl w7.heap.size rfl ?_) | (refine wpList_storeFresh (w := w7) rfl 37 _ _ rfl w7.heap.size rfl CA7 rfl rfl HCA7.out.2.1 HCA7.out.2.2.2.1 HCA7.out.2.2.2.2 ?_) | fail)
  obtain ⟨w8, hw8⟩ : ∃ x, x = w7.alloc (.cells CA7 37) := ⟨_, rfl⟩
  obtain ⟨g8, hg8⟩ : ∃ g, g = w7.heap.size := ⟨_, rfl⟩
  rw [← hw8, ← hg8, ← HN.out.2.1, ← HN.out.2.2]
  have hb78 : Below w7.heap.size w7 w8 := by rw [hw8]; exact (bel1 _ _).1
  have hb8 : Below w.heap.size w w8 := H7.out.1.trans (hb78.mono H7.out.1.size)
  have hk8 : w8.heap[g8]? = some (.cells CA7 37) := by rw [hw8, hg8]; exact heap_alloc_new _ _
  have H8 := Lib.hid (And.intro hb8 (And.intro hb78 hk8))
  clear hw8 hg8 hb78 hb8 hk8
  go_upto_region 5 with (first | (go_at_call 44; refine (HRG.out.len w8 H8.out.1).mono ?_; rw [← HN.out.1]; rintro e w9 ⟨rfl, hb9⟩; have H9 := Lib.hid hb9; clear hb9) | fail)
  have hst9 : MoK w9 n (.int .i64 0) w9 := ⟨0, Nat.zero_le _, rfl, Lib.hid (Below.refl _ _)⟩
  have HST9 := Lib.hid hst9
  clear hst9
  have h29 : Below w2.heap.size w2 w9 := by
    have h3 : Below w2.heap.size w2 w3 := by rw [HIN3.out]; exact (bel1 _ _).1
    have h4 := h3.trans (H4.out.2.1.mono h3.size)
    have h5 := h4.trans (H5.out.2.1.mono h4.size)
    have h7 := h5.trans (H7.out.2.1.mono h5.size)
    have h8 := h7.trans (H8.out.2.1.mono h7.size)
    exact h8.trans (H9.out.mono h8.size)
  have h49 : Below w4.heap.size w4 w9 := by
    have h5 := H5.out.2.1
    have h7 := h5.trans (H7.out.2.1.mono h5.size)
    have h8 := h7.trans (H8.out.2.1.mono h7.size)
    exact h8.trans (H9.out.mono h8.size)
  have h59 : Below w5.heap.size w5 w9 := by
    have h7 := H7.out.2.1
    have h8 := h7.trans (H8.out.2.1.mono h7.size)
    exact h8.trans (H9.out.mono h8.size)
  have h79 : Below w7.heap.size w7 w9 := H8.out.2.1.trans (H9.out.mono H8.out.2.1.size)
  have h09 : Below w.heap.size w w9 := H8.out.1.trans (H9.out.mono H8.out.1.size)
  have hik2 : IkG w9 (fun b => b < w9.heap.size) A2 c2 (idsW M) := by
    have h := own_ikG H2.out.2 rfl
    exact h.keep (fun b hb => ⟨h29.block b hb.2, Nat.lt_of_lt_of_le hb.2 h29.size⟩)
  have hik4 : IkG w9 (fun b => b < w9.heap.size) A4 c4 (idsW S) := by
    have h := own_ikG H4.out.2.2 rfl
    rw [← HSE.out] at h
    exact h.keep (fun b hb => ⟨h49.block b hb.2, Nat.lt_of_lt_of_le hb.2 h49.size⟩)
  have hr5 : RowW w9 (fun b => b < w9.heap.size) (fun k => k < B) A5 c5 S := H5.out.2.2.keep (fun k hk => ⟨h59.block k hk.2, Nat.lt_of_lt_of_le hk.2 h59.size⟩) (fun k hk => ⟨h59.block k (Nat.lt_of_lt_of_le hk (Nat.le_trans HBW.out H5.out.1.size)), hk⟩)
  have hr7 : RowW w9 (fun b => b < w9.heap.size) (fun b => b < w9.heap.size) Ao7 co7 S.dropLast := H7.out.2.2.2.keep (fun k hk => ⟨h79.block k hk.2, Nat.lt_of_lt_of_le hk.2 h79.size⟩) (fun k hk => ⟨h79.block k hk.2, Nat.lt_of_lt_of_le hk.2 h79.size⟩)
  have hsl7 : SlAt w9 w9.heap.size A7 c7 (lastC S).t.l := ((H7.out.2.2.1.at_ (B := w7.heap.size) (fun _ _ h => h.2)).below h79).more h79.size
  have hk89 : w9.heap[g8]? = some (.cells CA7 37) := (H9.out.block g8 (Array.getElem?_eq_some_iff.1 H8.out.2.2).1).trans H8.out.2.2
  have hq : n ≤ c2 ∧ c2 ≤ 9223372036854775807 ∧ ns ≤ c4 ∧ c4 ≤ 9223372036854775807 ∧ ns ≤ c5 ∧ c5 ≤ 9223372036854775807 ∧ no ≤ co7 ∧ co7 ≤ 9223372036854775807 := by
    have e1 := hik2.1
    have e2 := hik4.1
    have e3 := hr5.1
    have e4 := hr7.1
    rw [HIDL.out.1] at e1
    rw [HIDL.out.2] at e2
    rw [← HN.out.2.1] at e3
    rw [List.length_dropLast, ← HN.out.2.1, ← HN.out.2.2] at e4
    exact ⟨e1, hik2.2.1, e2, hik4.2.1, e3, hr5.2.1, e4, hr7.2.1⟩
  obtain ⟨hq1, hq2, hq3, hq4, hq5, hq6, hq7, hq8⟩ := hq
  have HQ := Lib.hid (And.intro hik2 (And.intro hik4 (And.intro hr5 (And.intro hr7 (And.intro hsl7 hk89)))))
  have H09 := Lib.hid h09
  clear h29 h49 h59 h79 h09 hik2 hik4 hr5 hr7 hsl7 hk89
  go_wp2
  clear hmx
  go_loopw [62] (fun iv wr => MoK w9 n iv wr) (fun iv _ => n - (intOf iv).toNat)
  case atStart => exact HST9.out
  case round =>
   obtain ⟨i, hin, rfl, hR⟩ := hrel
   by_cases hi : i < n
   · have hiI : (i : Int) < (n : Int) := by omega
     have hi0 : (0 : Int) ≤ i := by omega
     have hiM : i < M.length := by rw [← HN.out.1]; exact hi
     have hiI2 : i < (idsW M).length := by rw [HIDL.out.1]; exact hi
     obtain ⟨gl, of, hA, hrM⟩ := HRM.out i hiM
     obtain ⟨q2, o2, hA2, hqq, hri⟩ := HQ.out.1.at_ i hiI2
     subst hA
     subst hA2
     obtain ⟨x, hx⟩ : ∃ x, x = M[i].id := ⟨_, rfl⟩
     have hxi : (idsW M)[i] = x := by rw [hx]; simp [idsW]
     rw [hxi] at hri
     rw [← hx] at hrM
     have HXR := Lib.hid (fun (wz : World) (hz : Below wr.heap.size wr wz) => show wz.rangeAt q2 (o2 + i * 2) x.cs ∧ wz.rangeAt gl (of + i * 32) x.cs from by
       have h9 : Below w9.heap.size w9 wz := hR.out.trans (hz.mono hR.out.size)
       exact ⟨fun j v hv => (World.cell?_of_block (a := ⟨q2, o2 + i * 2 + j, none⟩) (h9.block q2 hqq)).trans (hri j v hv), hrM wz (H09.out.trans (h9.mono H09.out.size))⟩)
     clear hri hrM hqq hx hxi hiM hiI2
     go_upto_region 8 with (fail)
     refine wp_region_held_drew (S := fun wz => Below wr.heap.size wr wz) (by kernel_rfl) (Below.refl _ _).drew (fun hHeld => ?_)
     obtain ⟨wa, hwa⟩ : ∃ x, x = wr.drew := ⟨_, rfl⟩
     rw [← hwa] at hHeld ⊢
     clear hwa
     refine wpAnyH_take (i := 0) (v := .slice (some ⟨q2, o2, none⟩) n c2) rfl (by kernel_rfl) (by kernel_rfl) (by kernel_rfl) (fun _ _ _ h => h) (Or.inl ⟨by kernel_rfl, fun _ hS => by kernel_rfl⟩) hHeld ?_
     (try simp only [Act.put, List.getElem_toArray, List.getElem_cons_succ, List.getElem_cons_zero, List.setIfInBounds_toArray, List.set_cons_zero, List.set_cons_succ])
     refine wpAnyH_take (i := 1) (v := .int .i64 (i : Nat)) rfl (by kernel_rfl) (by kernel_rfl) (by kernel_rfl) (fun _ _ _ h => h) (Or.inl ⟨by kernel_rfl, fun _ hS => by kernel_rfl⟩) hHeld ?_
     (try simp only [Act.put, List.getElem_toArray, List.getElem_cons_succ, List.getElem_cons_zero, List.setIfInBounds_toArray, List.set_cons_zero, List.set_cons_succ])
     refine wpAnyH_take (i := 2) (v := .pointer (some ⟨q2, o2 + i * 2, none⟩)) rfl (by kernel_rfl) (by kernel_rfl) (by kernel_rfl) (fun _ _ _ h => h) (Or.inl ⟨by kernel_rfl, fun _ hS => ix_atIo _ _ rfl q2 o2 n c2 i rfl rfl hi⟩) hHeld ?_
     (try simp only [Act.put, List.getElem_toArray, List.getElem_cons_succ, List.getElem_cons_zero, List.setIfInBounds_toArray, List.set_cons_zero, List.set_cons_succ])
     refine wpAnyH_take (i := 3) (v := .agg x.cs.toArray) rfl (by kernel_rfl) (by kernel_rfl) (by kernel_rfl) (fun _ _ _ h => h) (yieldsIf_load_mid (by kernel_rfl) 28 _ rfl q2 (o2 + i * 2) rfl x.cs _ (fun _ hS => (HXR.out _ hS).1) ikUnd rfl (HIK.out _)) hHeld ?_
     (try simp only [Act.put, List.getElem_toArray, List.getElem_cons_succ, List.getElem_cons_zero, List.setIfInBounds_toArray, List.set_cons_zero, List.set_cons_succ])
     refine wpAnyH_take (i := 4) (v := .slice (some ⟨gl, of, none⟩) n c) rfl (by kernel_rfl) (by kernel_rfl) (by kernel_rfl) (fun _ _ _ h => h) (Or.inl ⟨by kernel_rfl, fun _ hS => by kernel_rfl⟩) hHeld ?_
     (try simp only [Act.put, List.getElem_toArray, List.getElem_cons_succ, List.getElem_cons_zero, List.setIfInBounds_toArray, List.set_cons_zero, List.set_cons_succ])
     refine wpAnyH_take (i := 5) (v := .int .i64 (i : Nat)) rfl (by kernel_rfl) (by kernel_rfl) (by kernel_rfl) (fun _ _ _ h => h) (Or.inl ⟨by kernel_rfl, fun _ hS => by kernel_rfl⟩) hHeld ?_
     (try simp only [Act.put, List.getElem_toArray, List.getElem_cons_succ, List.getElem_cons_zero, List.setIfInBounds_toArray, List.set_cons_zero, List.set_cons_succ])
     refine wpAnyH_take (i := 6) (v := .pointer (some ⟨gl, of + i * 32, none⟩)) rfl (by kernel_rfl) (by kernel_rfl) (by kernel_rfl) (fun _ _ _ h => h) (Or.inl ⟨by kernel_rfl, fun _ hS => ix_at37 _ _ rfl gl of n c i rfl rfl hi⟩) hHeld ?_
     (try simp only [Act.put, List.getElem_toArray, List.getElem_cons_succ, List.getElem_cons_zero, List.setIfInBounds_toArray, List.set_cons_zero, List.set_cons_succ])
     refine wpAnyH_take (i := 7) (v := .pointer (some ⟨gl, of + i * 32, none⟩)) rfl (by kernel_rfl) (by kernel_rfl) (by kernel_rfl) (fun _ _ _ h => h) (Or.inl ⟨by kernel_rfl, fun _ hS => by kernel_rfl⟩) hHeld ?_
     (try simp only [Act.put, List.getElem_toArray, List.getElem_cons_succ, List.getElem_cons_zero, List.setIfInBounds_toArray, List.set_cons_zero, List.set_cons_succ])
     refine wpAnyH_take (i := 8) (v := .agg x.cs.toArray) rfl (by kernel_rfl) (by kernel_rfl) (by kernel_rfl) (fun _ _ _ h => h) (yieldsIf_load_mid (by kernel_rfl) 28 _ rfl gl (of + i * 32) rfl x.cs _ (fun _ hS => (HXR.out _ hS).2) ikUnd rfl (HIK.out _)) hHeld ?_
     (try simp only [Act.put, List.getElem_toArray, List.getElem_cons_succ, List.getElem_cons_zero, List.setIfInBounds_toArray, List.set_cons_zero, List.set_cons_succ])
     refine wpAnyH_take (i := 9) (v := .bool false) rfl (by kernel_rfl) (by kernel_rfl) (by kernel_rfl) (fun _ _ _ h => h) (Or.inl ⟨by kernel_rfl, fun _ hS => ik_ne_run _ _ rfl x x rfl rfl (by simp)⟩) hHeld ?_
     (try simp only [Act.put, List.getElem_toArray, List.getElem_cons_succ, List.getElem_cons_zero, List.setIfInBounds_toArray, List.set_cons_zero, List.set_cons_succ])
     have HE := Lib.hid hHeld
     refine wpAnyH_done (by kernel_rfl) ?_ _
     clear hHeld
     go_wp2
     go_roundw
     case measure => simp [intOf]; omega
     case rel => exact ⟨i + 1, by omega, by go_num, Lib.hid (hR.out.trans (HE.out.mono hR.out.size))⟩
   · have hie : n = i := by omega
     subst hie
     have hiI : ¬ ((n : Int) < (n : Int)) := by omega
     obtain ⟨w10, hw10⟩ : ∃ x, x = wr := ⟨_, rfl⟩
     have h910 : Below w9.heap.size w9 w10 := by rw [hw10]; exact hR.out
     rw [← hw10]
     have H910 := Lib.hid h910
     clear hR HST9 hw10 h910
     go_upto_region 12 with (first | (refine wpList_contVar rfl rfl w10.heap.size rfl ?_) | (refine wpList_storeFresh (w := w10) rfl 37 _ _ rfl w10.heap.size rfl (contA zCt none 0) rfl rfl infC rfl (cont_one _ _ _) ?_) | fail)
     obtain ⟨w11, hw11⟩ : ∃ x, x = w10.alloc (.cells (contA zCt none 0) 37) := ⟨_, rfl⟩
     obtain ⟨g13, hg13⟩ : ∃ g, g = w10.heap.size := ⟨_, rfl⟩
     have hsa : SaI w10 g13 S ns (.int .i64 0) w11 := ⟨0, Nat.zero_le _, rfl, none, 0, Lib.hid ⟨by rw [hw11]; exact (bel1 _ _).1, by rw [hw11, hg13]; exact heap_alloc_new _ _, slAt_nil _ _⟩⟩
     change Code.wp _ _ _ _ (w10.alloc (.cells (contA zCt none 0) 37))
     rw [← hw11, ← hg13]
     have HSA := Lib.hid hsa
     have HG13 := Lib.hid hg13
     clear hw11 hg13 hsa
     go_wp2
     go_loopw [79] (fun iv wr => SaI w10 g13 S ns iv wr) (fun iv _ => ns - (intOf iv).toNat)
     case atStart => exact HSA.out
     case round =>
      obtain ⟨i, hin, rfl, A', c', hR⟩ := hrel
      have h9r : Below w9.heap.size w9 wr := H910.out.trans (hR.out.1.mono H910.out.size)
      have H9R := Lib.hid h9r
      have hgs : g13 < wr.heap.size := (Array.getElem?_eq_some_iff.1 hR.out.2.1).1
      have hg9 : w9.heap.size ≤ g13 := by have := HG13.out; have := H910.out.size; omega
      clear h9r
      by_cases hi : i < ns
      · have hiI : (i : Int) < (ns : Int) := by omega
        have hi0 : (0 : Int) ≤ i := by omega
        have hiS : i < S.length := by rw [← HN.out.2.1]; exact hi
        have hiI4 : i < (idsW S).length := by rw [HIDL.out.2]; exact hi
        obtain ⟨q5, o5, hA5, hg5, hr5⟩ := HQ.out.2.2.1.2.2.resolve_left (fun e => by rw [e] at hiS; exact absurd hiS (Nat.not_lt_zero _))
        obtain ⟨A5', c5', Ao5, co5, hq51, hq52, hq53⟩ := hr5 i hiS
        obtain ⟨q4, o4, hA4, hqq, hri⟩ := HQ.out.2.1.at_ i hiI4
        subst hA5
        subst hA4
        obtain ⟨m, hm⟩ : ∃ x, x = S[i] := ⟨_, rfl⟩
        rw [← hm] at hq51 hq52 hq53
        obtain ⟨x, hx⟩ : ∃ x, x = m.id := ⟨_, rfl⟩
        have hxi : (idsW S)[i] = x := by rw [hx, hm]; simp [idsW]
        rw [hxi] at hri
        have hmf := HFS.out m (by rw [hm]; exact List.getElem_mem hiS)
        obtain ⟨CW, hCW⟩ : ∃ C, C = wrA m A5' c5' Ao5 co5 := ⟨_, rfl⟩
        obtain ⟨CX, hCX⟩ : ∃ C, C = contA m.x A5' c5' := ⟨_, rfl⟩
        obtain ⟨gb, hgb⟩ : ∃ b, b = wr.heap.size := ⟨_, rfl⟩
        obtain ⟨w11, hw11⟩ : ∃ w5, w5 = wr.alloc (.cells CW 46) := ⟨_, rfl⟩
        obtain ⟨w12, hw12⟩ : ∃ x, x = w11.setRow g13 CX := ⟨_, rfl⟩
        have hb11 : Below wr.heap.size wr w11 := by rw [hw11]; exact (bel1 _ _).1
        have hk11 : w11.heap[gb]? = some (.cells CW 46) := by rw [hw11, hgb]; exact heap_alloc_new _ _
        have hk13 : w11.heap[g13]? = some (.cells (contA (lastC (S.take i)) A' c') 37) := (hb11.block g13 hgs).trans hR.out.2.1
        have hb12 : Below w10.heap.size w10 w12 := by rw [hw12]; exact below_row (hR.out.1.trans (hb11.mono hR.out.1.size)) (by have := HG13.out; omega) _
        have hk12 : w12.heap[g13]? = some (.cells CX 37) := by rw [hw12]; exact setRow_heap _ _ _ _ _ _ hk13
        have hb912 : Below w9.heap.size w9 w12 := H910.out.trans (hb12.mono H910.out.size)
        have hkb12 : w12.heap[gb]? = some (.cells CW 46) := by rw [hw12]; exact (setRow_other _ _ _ _ (by omega)).trans hk11
        have hrrow : wr.rangeAt q5 (o5 + i * 32) CW.toList := fun j v hv => (World.cell?_of_block (a := ⟨q5, o5 + i * 32 + j, none⟩) (H9R.out.block q5 hg5)).trans (hq51 j v (by rw [← hCW]; exact hv))
        have hcx11 : w11.rangeAt gb 2 CX.toList := by rw [hCX]; exact (wr_rows (by rw [← hCW]; exact hk11)).2.1
        have hic := rw_info m A5' c5' Ao5 co5
        have h1w := wrA_one m A5' c5' Ao5 co5
        have hzs : (wrA zWr none 0 none 0).size = (wrA m A5' c5' Ao5 co5).size := rfl
        have hixx := HIC.out m.x A5' c5'
        have hzc : (contA (lastC (S.take i)) A' c').size = CX.size := by rw [hCX]; rfl
        rw [← hCW] at hic h1w hzs
        rw [← hCX] at hixx
        have hlc : lastC (S.take (i + 1)) = m.x := by rw [lastC_take hiS, hm]
        have hsl12 : SlAt w12 w12.heap.size A5' c5' m.x.t.l := by
          have h := (hq52.at_ (B := B) (fun _ _ h => h))
          have hBB : B ≤ w9.heap.size := Nat.le_trans HBW.out H09.out.size
          exact (h.below (hb912.mono hBB)).more (Nat.le_trans hBB hb912.size)
        have hio12 : IkG w12 (fun k => k < w12.heap.size) Ao5 co5 m.o := by
          have hBB : B ≤ w9.heap.size := Nat.le_trans HBW.out H09.out.size
          exact (hq53.below (hb912.mono hBB)).mono (fun k hk => Nat.lt_of_lt_of_le hk (Nat.le_trans hBB hb912.size))
        have H16 := Lib.hid (fun (wz : World) (hz : Below w12.heap.size w12 wz) => show wz.rangeAt q4 (o4 + i * 2) x.cs ∧ wz.rangeAt gb 0 x.cs ∧ wz.rangeAt gb 0 CW.toList from by
          have h9 : Below w9.heap.size w9 wz := hb912.trans (hz.mono hb912.size)
          have hg : wz.heap[gb]? = some (.cells CW 46) := (hz.block gb (Array.getElem?_eq_some_iff.1 hkb12).1).trans hkb12
          refine ⟨fun j v hv => (World.cell?_of_block (a := ⟨q4, o4 + i * 2 + j, none⟩) (h9.block q4 hqq)).trans (hri j v hv), ?_, row_range_ hg _ _ (fun j v hv => by rw [Nat.zero_add, ← Array.getElem?_toList]; exact hv)⟩
          rw [hx]; exact (wr_rows (by rw [← hCW]; exact hg)).1)
        have hot : i < no → ∃ q7 o7, Ao7 = some ⟨q7, o7, none⟩ ∧ ∃ CB : Array Value, (Tryz.prog.info? 49).map (·.size) = some CB.toList.length ∧ ∀ wz, Below w12.heap.size w12 wz → wz.rangeAt q7 (o7 + i * 32) CB.toList ∧ Calls Tryz.prog 45 #[.agg CB, .agg CW] wz fun e w' => e = .returned (.bool true) ∧ Below wz.heap.size wz w' := fun hio => by
          have hdl : i < S.dropLast.length := by rw [List.length_dropLast, ← HN.out.2.1, ← HN.out.2.2]; exact hio
          obtain ⟨q7, o7, e, hg7, hr7⟩ := HQ.out.2.2.2.1.2.2.resolve_left (fun e => by rw [e] at hdl; exact absurd hdl (Nat.not_lt_zero _))
          obtain ⟨A6, c6, Ao6, co6, p1, p2, p3⟩ := hr7 i hdl
          have hmm : S.dropLast[i] = m := by rw [hm]; simp
          rw [hmm] at p1 p2 p3
          refine ⟨q7, o7, e, wrA m A6 c6 Ao6 co6, (wr_idx _ _ _ _ _).2, fun wz hz => ?_⟩
          have h9 : Below w9.heap.size w9 wz := hb912.trans (hz.mono hb912.size)
          refine ⟨fun j v hv => (World.cell?_of_block (a := ⟨q7, o7 + i * 32 + j, none⟩) (h9.block q7 hg7)).trans (p1 j v hv), ?_⟩
          rw [hCW]
          exact same37_c wz wz.heap.size m A6 A5' c6 c5' Ao6 Ao5 co6 co5 hmf.1 (((p2.at_ (B := w9.heap.size) (fun _ _ h => h)).below h9).more h9.size) ((hsl12.below hz).more hz.size) ((p3.below h9).mono (fun k hk => Nat.lt_of_lt_of_le hk h9.size)) ((hio12.below hz).mono (fun k hk => Nat.lt_of_lt_of_le hk hz.size)) (Nat.le_refl _) hmf.2
        have HOT0 := Lib.hid hot
        have HX := Lib.hid (And.intro hrrow (And.intro hic (And.intro h1w (And.intro hzs (And.intro hcx11 (And.intro hk13 (And.intro hsl12 (And.intro hixx hzc))))))))
        have HB12 := Lib.hid hb12
        have HB1112 := Lib.hid (Below.refl w12.heap.size w12)
        have HK13 := Lib.hid hk12
        have HLC := Lib.hid hlc
        have HCX := Lib.hid hCX
        have HCW := Lib.hid hic
        have HW12 := Lib.hid hw12
        have HW11 := Lib.hid (And.intro hw11 hgb)
        clear hw11 hw12 hb11 hk11 hk13 hb12 hk12 hb912 hkb12 hrrow hcx11 hic h1w hzs hixx hzc hlc hsl12 hio12 hot hCX hCW hgb hx hxi hri hqq hm hmf hq51 hq52 hq53 hr5 hg5 hiS hiI4 hgs hg9
        go_upto_region 15 with (first | (refine wpList_mid rfl 46 _ rfl q5 (o5 + i * 32) rfl CW.toList _ HX.out.1 undRw rfl HX.out.2.1.2 ?_; simp only [Array.toArray_toList]) | (refine wpList_rwVar rfl rfl wr.heap.size rfl ?_) | (refine wpList_storeFresh (w := wr) rfl 46 _ _ rfl wr.heap.size rfl CW rfl rfl HX.out.2.1.1 HX.out.2.2.2.1 HX.out.2.2.1 ?_) | fail)
        rw [← HW11.out.1, ← HW11.out.2]
        go_upto_region 16 with (first | (refine wpList_mid rfl 37 _ rfl gb 2 rfl CX.toList _ HX.out.2.2.2.2.1 undC rfl HX.out.2.2.2.2.2.2.2.1.2.1 ?_; simp only [Array.toArray_toList]) | (refine wpList_store_row rfl 37 _ _ rfl g13 CX rfl rfl 37 _ HX.out.2.2.2.2.2.1 HX.out.2.2.2.2.2.2.2.1.1 HX.out.2.2.2.2.2.2.2.2 HX.out.2.2.2.2.2.2.2.1.2.2.2 ?_) | fail)
        rw [← HW12.out]
        by_cases hio : i < no
        · obtain ⟨q7, o7, hA7, CB, hCB, hotc⟩ := HOT0.out hio
          subst hA7
          have HCB := Lib.hid hCB
          have HOT := Lib.hid hotc
          clear hCB hotc
          refine wp_region_held_drew (S := fun wz => Below w12.heap.size w12 wz) (by kernel_rfl) (Below.refl _ _).drew (fun hHeld => ?_)
          obtain ⟨wa, hwa⟩ : ∃ x, x = w12.drew := ⟨_, rfl⟩
          rw [← hwa] at hHeld ⊢
          clear hwa
          refine wpAnyH_take (i := 0) (v := .slice (some ⟨q4, o4, none⟩) ns c4) rfl (by kernel_rfl) (by kernel_rfl) (by kernel_rfl) (fun _ _ _ h => h) (Or.inl ⟨by kernel_rfl, fun _ hS => by kernel_rfl⟩) hHeld ?_
          (try simp only [Act.put, List.getElem_toArray, List.getElem_cons_succ, List.getElem_cons_zero, List.setIfInBounds_toArray, List.set_cons_zero, List.set_cons_succ])
          refine wpAnyH_take (i := 1) (v := .int .i64 (i : Nat)) rfl (by kernel_rfl) (by kernel_rfl) (by kernel_rfl) (fun _ _ _ h => h) (Or.inl ⟨by kernel_rfl, fun _ hS => by kernel_rfl⟩) hHeld ?_
          (try simp only [Act.put, List.getElem_toArray, List.getElem_cons_succ, List.getElem_cons_zero, List.setIfInBounds_toArray, List.set_cons_zero, List.set_cons_succ])
          refine wpAnyH_take (i := 2) (v := .pointer (some ⟨q4, o4 + i * 2, none⟩)) rfl (by kernel_rfl) (by kernel_rfl) (by kernel_rfl) (fun _ _ _ h => h) (Or.inl ⟨by kernel_rfl, fun _ hS => ix_atIo _ _ rfl q4 o4 ns c4 i rfl rfl hi⟩) hHeld ?_
          (try simp only [Act.put, List.getElem_toArray, List.getElem_cons_succ, List.getElem_cons_zero, List.setIfInBounds_toArray, List.set_cons_zero, List.set_cons_succ])
          refine wpAnyH_take (i := 3) (v := .agg x.cs.toArray) rfl (by kernel_rfl) (by kernel_rfl) (by kernel_rfl) (fun _ _ _ h => h) (yieldsIf_load_mid (by kernel_rfl) 28 _ rfl q4 (o4 + i * 2) rfl x.cs _ (fun _ hS => (H16.out _ hS).1) ikUnd rfl (HIK.out _)) hHeld ?_
          (try simp only [Act.put, List.getElem_toArray, List.getElem_cons_succ, List.getElem_cons_zero, List.setIfInBounds_toArray, List.set_cons_zero, List.set_cons_succ])
          refine wpAnyH_take (i := 4) (v := .pointer (some ⟨gb, 0, none⟩)) rfl (by kernel_rfl) (by kernel_rfl) (by kernel_rfl) (fun _ _ _ h => h) (Or.inl ⟨by kernel_rfl, fun _ hS => by kernel_rfl⟩) hHeld ?_
          (try simp only [Act.put, List.getElem_toArray, List.getElem_cons_succ, List.getElem_cons_zero, List.setIfInBounds_toArray, List.set_cons_zero, List.set_cons_succ])
          refine wpAnyH_take (i := 5) (v := .agg x.cs.toArray) rfl (by kernel_rfl) (by kernel_rfl) (by kernel_rfl) (fun _ _ _ h => h) (yieldsIf_load_mid (by kernel_rfl) 28 _ rfl gb 0 rfl x.cs _ (fun _ hS => (H16.out _ hS).2.1) ikUnd rfl (HIK.out _)) hHeld ?_
          (try simp only [Act.put, List.getElem_toArray, List.getElem_cons_succ, List.getElem_cons_zero, List.setIfInBounds_toArray, List.set_cons_zero, List.set_cons_succ])
          refine wpAnyH_take (i := 6) (v := .bool false) rfl (by kernel_rfl) (by kernel_rfl) (by kernel_rfl) (fun _ _ _ h => h) (Or.inl ⟨by kernel_rfl, fun _ hS => ik_ne_run _ _ rfl x x rfl rfl (by simp)⟩) hHeld ?_
          (try simp only [Act.put, List.getElem_toArray, List.getElem_cons_succ, List.getElem_cons_zero, List.setIfInBounds_toArray, List.set_cons_zero, List.set_cons_succ])
          refine wpAnyH_take (i := 7) (v := .bool false) rfl (by kernel_rfl) (by kernel_rfl) (by kernel_rfl) (fun _ _ _ h => h) (Or.inl ⟨by kernel_rfl, fun _ hS => by kernel_rfl⟩) hHeld ?_
          (try simp only [Act.put, List.getElem_toArray, List.getElem_cons_succ, List.getElem_cons_zero, List.setIfInBounds_toArray, List.set_cons_zero, List.set_cons_succ])
          refine wpAnyH_take (i := 8) (v := .int .i64 (i : Nat)) rfl (by kernel_rfl) (by kernel_rfl) (by kernel_rfl) (fun _ _ _ h => h) (Or.inl ⟨by kernel_rfl, fun _ hS => by kernel_rfl⟩) hHeld ?_
          (try simp only [Act.put, List.getElem_toArray, List.getElem_cons_succ, List.getElem_cons_zero, List.setIfInBounds_toArray, List.set_cons_zero, List.set_cons_succ])
          refine wpAnyH_take (i := 9) (v := .slice (some ⟨q7, o7, none⟩) no co7) rfl (by kernel_rfl) (by kernel_rfl) (by kernel_rfl) (fun _ _ _ h => h) (Or.inl ⟨by kernel_rfl, fun _ hS => by kernel_rfl⟩) hHeld ?_
          (try simp only [Act.put, List.getElem_toArray, List.getElem_cons_succ, List.getElem_cons_zero, List.setIfInBounds_toArray, List.set_cons_zero, List.set_cons_succ])
          refine wpAnyH_take (i := 10) (v := .int .i64 no) rfl (by kernel_rfl) (by kernel_rfl) (by kernel_rfl) (fun _ _ _ h => h) (Or.inl ⟨by kernel_rfl, fun _ hS => by kernel_rfl⟩) hHeld ?_
          (try simp only [Act.put, List.getElem_toArray, List.getElem_cons_succ, List.getElem_cons_zero, List.setIfInBounds_toArray, List.set_cons_zero, List.set_cons_succ])
          refine wpAnyH_take (i := 11) (v := .bool true) rfl (by kernel_rfl) (by kernel_rfl) (by kernel_rfl) (fun _ _ _ h => h) (Or.inl ⟨by kernel_rfl, fun _ hS => lss_run _ _ rfl rfl rfl (decide_eq_true (by omega))⟩) hHeld ?_
          (try simp only [Act.put, List.getElem_toArray, List.getElem_cons_succ, List.getElem_cons_zero, List.setIfInBounds_toArray, List.set_cons_zero, List.set_cons_succ])
          refine wpAnyH_take (i := 12) (v := .bool true) rfl (by kernel_rfl) (by kernel_rfl) (by kernel_rfl) (fun _ _ _ h => h) (Or.inl ⟨by kernel_rfl, fun _ hS => by kernel_rfl⟩) hHeld ?_
          (try simp only [Act.put, List.getElem_toArray, List.getElem_cons_succ, List.getElem_cons_zero, List.setIfInBounds_toArray, List.set_cons_zero, List.set_cons_succ])
          refine wpAnyH_take (i := 13) (v := .slice (some ⟨q7, o7, none⟩) no co7) rfl (by kernel_rfl) (by kernel_rfl) (by kernel_rfl) (fun _ _ _ h => h) (Or.inl ⟨by kernel_rfl, fun _ hS => by kernel_rfl⟩) hHeld ?_
          (try simp only [Act.put, List.getElem_toArray, List.getElem_cons_succ, List.getElem_cons_zero, List.setIfInBounds_toArray, List.set_cons_zero, List.set_cons_succ])
          refine wpAnyH_take (i := 14) (v := .int .i64 (i : Nat)) rfl (by kernel_rfl) (by kernel_rfl) (by kernel_rfl) (fun _ _ _ h => h) (Or.inl ⟨by kernel_rfl, fun _ hS => by kernel_rfl⟩) hHeld ?_
          (try simp only [Act.put, List.getElem_toArray, List.getElem_cons_succ, List.getElem_cons_zero, List.setIfInBounds_toArray, List.set_cons_zero, List.set_cons_succ])
          refine wpAnyH_take (i := 15) (v := .pointer (some ⟨q7, o7 + i * 32, none⟩)) rfl (by kernel_rfl) (by kernel_rfl) (by kernel_rfl) (fun _ _ _ h => h) (Or.inl ⟨by kernel_rfl, fun _ hS => ix_at37r _ _ rfl q7 o7 no co7 i rfl rfl hio⟩) hHeld ?_
          (try simp only [Act.put, List.getElem_toArray, List.getElem_cons_succ, List.getElem_cons_zero, List.setIfInBounds_toArray, List.set_cons_zero, List.set_cons_succ])
          refine wpAnyH_take (i := 16) (v := .agg CB.toList.toArray) rfl (by kernel_rfl) (by kernel_rfl) (by kernel_rfl) (fun _ _ _ h => h) (yieldsIf_load_mid (by kernel_rfl) 49 _ rfl q7 (o7 + i * 32) rfl CB.toList _ (fun _ hS => (HOT.out _ hS).1) undWr rfl HCB.out) hHeld ?_
          (try simp only [Act.put, List.getElem_toArray, List.getElem_cons_succ, List.getElem_cons_zero, List.setIfInBounds_toArray, List.set_cons_zero, List.set_cons_succ])
          refine wpAnyH_take (i := 17) (v := .agg CW.toList.toArray) rfl (by kernel_rfl) (by kernel_rfl) (by kernel_rfl) (fun _ _ _ h => h) (yieldsIf_load_mid (by kernel_rfl) 46 _ rfl gb 0 rfl CW.toList _ (fun _ hS => (H16.out _ hS).2.2) undRw rfl HCW.out.2) hHeld ?_
          (try simp only [Act.put, List.getElem_toArray, List.getElem_cons_succ, List.getElem_cons_zero, List.setIfInBounds_toArray, List.set_cons_zero, List.set_cons_succ])
          refine wpAnyH_ready (rs := [18]) (by kernel_rfl) (by simp) ?_
          refine AllReadyH.cons rfl (fun K hK => ?_) AllReadyH.nil
          go_simp
          try simp only [Array.toArray_toList]
          refine (HOT.out wa hHeld).2.mono ?_
          rintro e wb ⟨rfl, hbb⟩
          try go_simp
          have hbb2 := hHeld.trans (hbb.mono hHeld.size)
          refine hK.out _ _ hbb2 (fun hHeld1 => ?_)
          clear hK K hHeld hbb2
          have hHeld := hHeld1
          clear hHeld1
          (try simp only [Act.put, List.getElem_toArray, List.getElem_cons_succ, List.getElem_cons_zero, List.setIfInBounds_toArray, List.set_cons_zero, List.set_cons_succ])
          clear hbb
          refine wpAnyH_take (i := 19) (v := .bool false) rfl (by kernel_rfl) (by kernel_rfl) (by kernel_rfl) (fun _ _ _ h => h) (Or.inl ⟨by kernel_rfl, fun _ hS => by kernel_rfl⟩) hHeld ?_
          (try simp only [Act.put, List.getElem_toArray, List.getElem_cons_succ, List.getElem_cons_zero, List.setIfInBounds_toArray, List.set_cons_zero, List.set_cons_succ])
          refine wpAnyH_take (i := 20) (v := .bool false) rfl (by kernel_rfl) (by kernel_rfl) (by kernel_rfl) (fun _ _ _ h => h) (Or.inl ⟨by kernel_rfl, fun _ hS => by kernel_rfl⟩) hHeld ?_
          (try simp only [Act.put, List.getElem_toArray, List.getElem_cons_succ, List.getElem_cons_zero, List.setIfInBounds_toArray, List.set_cons_zero, List.set_cons_succ])
          refine wpAnyH_take (i := 21) (v := .bool false) rfl (by kernel_rfl) (by kernel_rfl) (by kernel_rfl) (fun _ _ _ h => h) (Or.inl ⟨by kernel_rfl, fun _ hS => by kernel_rfl⟩) hHeld ?_
          (try simp only [Act.put, List.getElem_toArray, List.getElem_cons_succ, List.getElem_cons_zero, List.setIfInBounds_toArray, List.set_cons_zero, List.set_cons_succ])
          have HE := Lib.hid hHeld
          refine wpAnyH_done (by kernel_rfl) ?_ _
          clear hHeld
          go_wp2
          go_roundw
          case measure => simp [intOf]; omega
          case rel =>
            refine ⟨i + 1, by omega, by go_num, A5', c5', Lib.hid ⟨HB12.out.trans (HE.out.mono (by have := HB12.out.size; omega)), ?_, ?_⟩⟩
            · rw [HLC.out, ← HCX.out]; exact (HE.out.block g13 (Array.getElem?_eq_some_iff.1 HK13.out).1).trans HK13.out
            · rw [HLC.out]
              have h := HX.out.2.2.2.2.2.2.1
              exact ((h.below (HB1112.out.trans (HE.out.mono HB1112.out.size))).more (by have := HB1112.out.size; have := HE.out.size; omega))
        · skip
          refine wp_region_held_drew (S := fun wz => Below w12.heap.size w12 wz) (by kernel_rfl) (Below.refl _ _).drew (fun hHeld => ?_)
          obtain ⟨wa, hwa⟩ : ∃ x, x = w12.drew := ⟨_, rfl⟩
          rw [← hwa] at hHeld ⊢
          clear hwa
          refine wpAnyH_take (i := 0) (v := .slice (some ⟨q4, o4, none⟩) ns c4) rfl (by kernel_rfl) (by kernel_rfl) (by kernel_rfl) (fun _ _ _ h => h) (Or.inl ⟨by kernel_rfl, fun _ hS => by kernel_rfl⟩) hHeld ?_
          (try simp only [Act.put, List.getElem_toArray, List.getElem_cons_succ, List.getElem_cons_zero, List.setIfInBounds_toArray, List.set_cons_zero, List.set_cons_succ])
          refine wpAnyH_take (i := 1) (v := .int .i64 (i : Nat)) rfl (by kernel_rfl) (by kernel_rfl) (by kernel_rfl) (fun _ _ _ h => h) (Or.inl ⟨by kernel_rfl, fun _ hS => by kernel_rfl⟩) hHeld ?_
          (try simp only [Act.put, List.getElem_toArray, List.getElem_cons_succ, List.getElem_cons_zero, List.setIfInBounds_toArray, List.set_cons_zero, List.set_cons_succ])
          refine wpAnyH_take (i := 2) (v := .pointer (some ⟨q4, o4 + i * 2, none⟩)) rfl (by kernel_rfl) (by kernel_rfl) (by kernel_rfl) (fun _ _ _ h => h) (Or.inl ⟨by kernel_rfl, fun _ hS => ix_atIo _ _ rfl q4 o4 ns c4 i rfl rfl hi⟩) hHeld ?_
          (try simp only [Act.put, List.getElem_toArray, List.getElem_cons_succ, List.getElem_cons_zero, List.setIfInBounds_toArray, List.set_cons_zero, List.set_cons_succ])
          refine wpAnyH_take (i := 3) (v := .agg x.cs.toArray) rfl (by kernel_rfl) (by kernel_rfl) (by kernel_rfl) (fun _ _ _ h => h) (yieldsIf_load_mid (by kernel_rfl) 28 _ rfl q4 (o4 + i * 2) rfl x.cs _ (fun _ hS => (H16.out _ hS).1) ikUnd rfl (HIK.out _)) hHeld ?_
          (try simp only [Act.put, List.getElem_toArray, List.getElem_cons_succ, List.getElem_cons_zero, List.setIfInBounds_toArray, List.set_cons_zero, List.set_cons_succ])
          refine wpAnyH_take (i := 4) (v := .pointer (some ⟨gb, 0, none⟩)) rfl (by kernel_rfl) (by kernel_rfl) (by kernel_rfl) (fun _ _ _ h => h) (Or.inl ⟨by kernel_rfl, fun _ hS => by kernel_rfl⟩) hHeld ?_
          (try simp only [Act.put, List.getElem_toArray, List.getElem_cons_succ, List.getElem_cons_zero, List.setIfInBounds_toArray, List.set_cons_zero, List.set_cons_succ])
          refine wpAnyH_take (i := 5) (v := .agg x.cs.toArray) rfl (by kernel_rfl) (by kernel_rfl) (by kernel_rfl) (fun _ _ _ h => h) (yieldsIf_load_mid (by kernel_rfl) 28 _ rfl gb 0 rfl x.cs _ (fun _ hS => (H16.out _ hS).2.1) ikUnd rfl (HIK.out _)) hHeld ?_
          (try simp only [Act.put, List.getElem_toArray, List.getElem_cons_succ, List.getElem_cons_zero, List.setIfInBounds_toArray, List.set_cons_zero, List.set_cons_succ])
          refine wpAnyH_take (i := 6) (v := .bool false) rfl (by kernel_rfl) (by kernel_rfl) (by kernel_rfl) (fun _ _ _ h => h) (Or.inl ⟨by kernel_rfl, fun _ hS => ik_ne_run _ _ rfl x x rfl rfl (by simp)⟩) hHeld ?_
          (try simp only [Act.put, List.getElem_toArray, List.getElem_cons_succ, List.getElem_cons_zero, List.setIfInBounds_toArray, List.set_cons_zero, List.set_cons_succ])
          refine wpAnyH_take (i := 7) (v := .bool false) rfl (by kernel_rfl) (by kernel_rfl) (by kernel_rfl) (fun _ _ _ h => h) (Or.inl ⟨by kernel_rfl, fun _ hS => by kernel_rfl⟩) hHeld ?_
          (try simp only [Act.put, List.getElem_toArray, List.getElem_cons_succ, List.getElem_cons_zero, List.setIfInBounds_toArray, List.set_cons_zero, List.set_cons_succ])
          refine wpAnyH_take (i := 8) (v := .int .i64 (i : Nat)) rfl (by kernel_rfl) (by kernel_rfl) (by kernel_rfl) (fun _ _ _ h => h) (Or.inl ⟨by kernel_rfl, fun _ hS => by kernel_rfl⟩) hHeld ?_
          (try simp only [Act.put, List.getElem_toArray, List.getElem_cons_succ, List.getElem_cons_zero, List.setIfInBounds_toArray, List.set_cons_zero, List.set_cons_succ])
          refine wpAnyH_take (i := 9) (v := .slice Ao7 no co7) rfl (by kernel_rfl) (by kernel_rfl) (by kernel_rfl) (fun _ _ _ h => h) (Or.inl ⟨by kernel_rfl, fun _ hS => by kernel_rfl⟩) hHeld ?_
          (try simp only [Act.put, List.getElem_toArray, List.getElem_cons_succ, List.getElem_cons_zero, List.setIfInBounds_toArray, List.set_cons_zero, List.set_cons_succ])
          refine wpAnyH_take (i := 10) (v := .int .i64 no) rfl (by kernel_rfl) (by kernel_rfl) (by kernel_rfl) (fun _ _ _ h => h) (Or.inl ⟨by kernel_rfl, fun _ hS => by kernel_rfl⟩) hHeld ?_
          (try simp only [Act.put, List.getElem_toArray, List.getElem_cons_succ, List.getElem_cons_zero, List.setIfInBounds_toArray, List.set_cons_zero, List.set_cons_succ])
          refine wpAnyH_take (i := 11) (v := .bool false) rfl (by kernel_rfl) (by kernel_rfl) (by kernel_rfl) (fun _ _ _ h => h) (Or.inl ⟨by kernel_rfl, fun _ hS => lss_run _ _ rfl rfl rfl (decide_eq_false (by omega))⟩) hHeld ?_
          (try simp only [Act.put, List.getElem_toArray, List.getElem_cons_succ, List.getElem_cons_zero, List.setIfInBounds_toArray, List.set_cons_zero, List.set_cons_succ])
          refine wpAnyH_take (i := 12) (v := .bool false) rfl (by kernel_rfl) (by kernel_rfl) (by kernel_rfl) (fun _ _ _ h => h) (Or.inl ⟨by kernel_rfl, fun _ hS => by kernel_rfl⟩) hHeld ?_
          (try simp only [Act.put, List.getElem_toArray, List.getElem_cons_succ, List.getElem_cons_zero, List.setIfInBounds_toArray, List.set_cons_zero, List.set_cons_succ])
          refine wpAnyH_take (i := 13) (v := undef) rfl (by kernel_rfl) (by kernel_rfl) (by kernel_rfl) (fun _ _ _ h => h) (Or.inr ⟨by kernel_rfl, rfl⟩) hHeld ?_
          (try simp only [Act.put, List.getElem_toArray, List.getElem_cons_succ, List.getElem_cons_zero, List.setIfInBounds_toArray, List.set_cons_zero, List.set_cons_succ])
          refine wpAnyH_take (i := 14) (v := undef) rfl (by kernel_rfl) (by kernel_rfl) (by kernel_rfl) (fun _ _ _ h => h) (Or.inr ⟨by kernel_rfl, rfl⟩) hHeld ?_
          (try simp only [Act.put, List.getElem_toArray, List.getElem_cons_succ, List.getElem_cons_zero, List.setIfInBounds_toArray, List.set_cons_zero, List.set_cons_succ])
          refine wpAnyH_take (i := 15) (v := undef) rfl (by kernel_rfl) (by kernel_rfl) (by kernel_rfl) (fun _ _ _ h => h) (Or.inr ⟨by kernel_rfl, rfl⟩) hHeld ?_
          (try simp only [Act.put, List.getElem_toArray, List.getElem_cons_succ, List.getElem_cons_zero, List.setIfInBounds_toArray, List.set_cons_zero, List.set_cons_succ])
          refine wpAnyH_take (i := 16) (v := undef) rfl (by kernel_rfl) (by kernel_rfl) (by kernel_rfl) (fun _ _ _ h => h) (Or.inr ⟨by kernel_rfl, rfl⟩) hHeld ?_
          (try simp only [Act.put, List.getElem_toArray, List.getElem_cons_succ, List.getElem_cons_zero, List.setIfInBounds_toArray, List.set_cons_zero, List.set_cons_succ])
          refine wpAnyH_take (i := 17) (v := undef) rfl (by kernel_rfl) (by kernel_rfl) (by kernel_rfl) (fun _ _ _ h => h) (Or.inr ⟨by kernel_rfl, rfl⟩) hHeld ?_
          (try simp only [Act.put, List.getElem_toArray, List.getElem_cons_succ, List.getElem_cons_zero, List.setIfInBounds_toArray, List.set_cons_zero, List.set_cons_succ])
          refine wpAnyH_take (i := 18) (v := undef) rfl (by kernel_rfl) (by kernel_rfl) (by kernel_rfl) (fun _ _ _ h => h) (Or.inr ⟨by kernel_rfl, rfl⟩) hHeld ?_
          (try simp only [Act.put, List.getElem_toArray, List.getElem_cons_succ, List.getElem_cons_zero, List.setIfInBounds_toArray, List.set_cons_zero, List.set_cons_succ])
          refine wpAnyH_take (i := 19) (v := undef) rfl (by kernel_rfl) (by kernel_rfl) (by kernel_rfl) (fun _ _ _ h => h) (Or.inr ⟨by kernel_rfl, rfl⟩) hHeld ?_
          (try simp only [Act.put, List.getElem_toArray, List.getElem_cons_succ, List.getElem_cons_zero, List.setIfInBounds_toArray, List.set_cons_zero, List.set_cons_succ])
          refine wpAnyH_take (i := 20) (v := .bool false) rfl (by kernel_rfl) (by kernel_rfl) (by kernel_rfl) (fun _ _ _ h => h) (Or.inl ⟨by kernel_rfl, fun _ hS => by kernel_rfl⟩) hHeld ?_
          (try simp only [Act.put, List.getElem_toArray, List.getElem_cons_succ, List.getElem_cons_zero, List.setIfInBounds_toArray, List.set_cons_zero, List.set_cons_succ])
          refine wpAnyH_take (i := 21) (v := .bool false) rfl (by kernel_rfl) (by kernel_rfl) (by kernel_rfl) (fun _ _ _ h => h) (Or.inl ⟨by kernel_rfl, fun _ hS => by kernel_rfl⟩) hHeld ?_
          (try simp only [Act.put, List.getElem_toArray, List.getElem_cons_succ, List.getElem_cons_zero, List.setIfInBounds_toArray, List.set_cons_zero, List.set_cons_succ])
          obtain ⟨wb, hwb⟩ : ∃ x, x = wa := ⟨_, rfl⟩
          rw [← hwb] at hHeld ⊢
          clear hwb
          have HE := Lib.hid hHeld
          refine wpAnyH_done (by kernel_rfl) ?_ _
          clear hHeld
          go_wp2
          go_roundw
          case measure => simp [intOf]; omega
          case rel =>
            refine ⟨i + 1, by omega, by go_num, A5', c5', Lib.hid ⟨HB12.out.trans (HE.out.mono (by have := HB12.out.size; omega)), ?_, ?_⟩⟩
            · rw [HLC.out, ← HCX.out]; exact (HE.out.block g13 (Array.getElem?_eq_some_iff.1 HK13.out).1).trans HK13.out
            · rw [HLC.out]
              have h := HX.out.2.2.2.2.2.2.1
              exact ((h.below (HB1112.out.trans (HE.out.mono HB1112.out.size))).more (by have := HB1112.out.size; have := HE.out.size; omega))
      · have hie : ns = i := by omega
        subst hie
        have hiI : ¬ ((ns : Int) < (ns : Int)) := by omega
        have htk : S.take ns = S := List.take_of_length_le (by rw [← HN.out.2.1]; exact Nat.le_refl _)
        obtain ⟨CY, hCY⟩ : ∃ C, C = contA (lastC S) A' c' := ⟨_, rfl⟩
        have hR2 := hR.out
        rw [htk, ← hCY] at hR2
        have hsl : SlAt wr wr.heap.size A' c' (lastC S).t.l := hR2.2.2
        have hr8 : wr.rangeAt g8 0 CA7.toList := row_range_ ((H9R.out.block g8 (Array.getElem?_eq_some_iff.1 HQ.out.2.2.2.2.2).1).trans HQ.out.2.2.2.2.2) _ _ (fun j v hv => by rw [Nat.zero_add, ← Array.getElem?_toList]; exact hv)
        have hr13 : wr.rangeAt g13 0 CY.toList := row_range_ hR2.2.1 _ _ (fun j v hv => by rw [Nat.zero_add, ← Array.getElem?_toList]; exact hv)
        have hsm : Calls Tryz.prog 18 #[.agg CA7, .agg CY] wr fun e w' => e = .returned (.bool true) ∧ Below wr.heap.size wr w' := by
          have h := rcsame_c (lastC S) (lastC S) wr wr.heap.size A7 A' c7 c' HLD.out ((HQ.out.2.2.2.2.1.below H9R.out).more H9R.out.size) HLD.out hsl (Nat.le_refl _)
          rw [sameC_self] at h
          unfold contV at h
          rw [← HCA7.out.1, ← hCY] at h
          exact h
        have hiy := HIC.out (lastC S) A' c'
        rw [← hCY] at hiy
        have HSM := Lib.hid hsm
        have HR8 := Lib.hid (And.intro hr8 (And.intro hr13 hiy))
        have HFW := Lib.hid (H09.out.trans (H9R.out.mono H09.out.size))
        clear htk hCY hR2 hsl hr8 hr13 hsm hiy hgs hg9
        go_wp2_with (first | (refine wpList_mid rfl 37 _ rfl g8 0 rfl CA7.toList _ HR8.out.1 undC rfl HCA7.out.2.2.1 ?_; simp only [Array.toArray_toList]) | (refine wpList_mid rfl 37 _ rfl g13 0 rfl CY.toList _ HR8.out.2.1 undC rfl HR8.out.2.2.2.1 ?_; simp only [Array.toArray_toList]) | (go_at_call 18; refine HSM.out.mono ?_; rintro e w20 ⟨rfl, hb20⟩; have H20 := Lib.hid hb20; clear hb20) | fail)
        first | go_ret | go_ret2 | (refine bodyPost_ret (results_tmp rfl _ _ _) rfl ?_)
        exact ⟨by kernel_rfl, HFW.out.trans (H20.out.mono HFW.out.size)⟩
end Go.Proofs.YtbiacjkkgddclaaGreat
