/- law 37's Same. reg's Clone. Where RegPlays stands: a register, a row, a clone, a row. RegPlays: the walk. -/
import Derived.Test.YtbiacjkkgddclaaGreatL3L4
import Derived.Test.YtbiacjkkgddclaaGreatL1K5L2
import Derived.Test.YtbiacjkkgddclaaGreatXmJ7Xa1
import Derived.Test.YtbiacjkkgddclaaGreatJ2NoGt
import Derived.Maps.RangeWalk
import Derived.RangeFuncBox
import Derived.Test.YtbiacjkkgddclaaGreatDpFlXt
namespace Go.Proofs.YtbiacjkkgddclaaGreat
set_option linter.unusedSimpArgs false
set_option linter.unusedVariables false
open Go Go.RowKit Go.Shelf Go.Maps

/-- what a register answers, wherever it is asked. -/
structure RegAt (w : World) (pv : Value) (M : List Wr) : Prop where
  ids : ∀ wx, Below w.heap.size w wx → Calls Tryz.prog 14 #[pv] wx (IdsP wx (idsW M))
  shown : ∀ wx, Below w.heap.size w wx → ∀ gv g, GoneV wx gv g → Calls Tryz.prog 15 #[pv, gv] wx (IdsP wx (idsW (standW M g)))
  get : ∀ wx, Below w.heap.size w wx → ∀ gv g, GoneV wx gv g → Calls Tryz.prog 17 #[pv, gv] wx (GetP wx (standW M g))
  len : ∀ wx, Below w.heap.size w wx → Calls Tryz.prog 44 #[pv] wx (fun e w' => e = .returned (.int .i64 M.length) ∧ Below wx.heap.size wx w')
theorem RgM.regAt {w : World} {p n : Nat} {M : List Wr} {Z : Nat → Prop} (h : RgM w p n M Z) (hM : M.length ≤ 1000) : RegAt w (.pointer (some ⟨p, 0, none⟩)) M :=
  ⟨fun wx hx => ids_c (h.below hx).z (by omega), fun wx hx gv g hg => shown_c (h.below hx).z (by omega) gv g hg, fun wx hx gv g hg => get_c (h.below hx).z (by omega) gv g hg, fun wx hx => len_c (h.below hx).z⟩
theorem lastC_take {S : List Wr} {i : Nat} (hi : i < S.length) : lastC (S.take (i + 1)) = S[i].x := by
  unfold lastC
  rw [List.take_succ_eq_append_getElem hi, List.getLast?_append]
  rfl
def SaI (w10 : World) (g13 : Nat) (S : List Wr) (n : Nat) (iv : Value) (wr : World) : Prop :=
  ∃ i : Nat, i ≤ n ∧ iv = .int .i64 i ∧ ∃ A' c', Hid (Below w10.heap.size w10 wr ∧ wr.heap[g13]? = some (.cells (contA (lastC (S.take i)) A' c') 37) ∧ SlAt wr wr.heap.size A' c' (lastC (S.take i)).t.l)
set_option maxRecDepth 100000 in
set_option maxHeartbeats 16000000 in
theorem same37L_c {w : World} {pv : Value} {M : List Wr} (hr : RegAt w pv M) {G : Nat → Prop} {B c : Nat} {A : Option Addr} (hrow : RowW w G (fun k => k < B) A c M) (hG : ∀ k, G k → k < w.heap.size) (hB : B ≤ w.heap.size) (hM : M.length ≤ 1000) (hfit : ∀ m ∈ M, m.x.t.d.ok ∧ m.o.length ≤ 100000) {A1 : Option Addr} {c1 : Nat} {gl0 : List Ik} (hgl : IkG w (fun k => k < w.heap.size) A1 c1 gl0) :
    Calls Tryz.prog 20 #[pv, .slice A M.length c, .slice A1 gl0.length c1] w fun e w' => e = .returned (.int .i64 1) ∧ Below w.heap.size w w' := by
  obtain ⟨n, hn⟩ : ∃ n, n = M.length := ⟨_, rfl⟩
  obtain ⟨kg, hkg⟩ : ∃ n, n = gl0.length := ⟨_, rfl⟩
  obtain ⟨S, hS⟩ : ∃ S, S = standW M (fun x => decide (x ∈ gl0)) := ⟨_, rfl⟩
  obtain ⟨ns, hns⟩ : ∃ n, n = S.length := ⟨_, rfl⟩
  obtain ⟨no, hno⟩ : ∃ n, n = ns - 1 := ⟨_, rfl⟩
  have hSM : ∀ m ∈ S, m ∈ M := fun m hm => by rw [hS] at hm; exact (stand_sub.1 hm).1
  have hnsn : ns ≤ n := by rw [hns, hn, hS]; exact List.length_filter_le _ _
  have hn1000 : n ≤ 1000 := by rw [hn]; exact hM
  have hns1000 : ns ≤ 1000 := by omega
  have hmx : ((no : Int) != max ((ns : Int) - 1) 0) = false := by
    have e : (no : Int) = max ((ns : Int) - 1) 0 := by omega
    rw [← e]; simp
  have hidl : (idsW M).length = n := by rw [hn]; unfold idsW; rw [List.length_map]
  have hidl2 : (idsW S).length = ns := by rw [hns]; unfold idsW; rw [List.length_map]
  have hst : ∀ wx, Below w.heap.size w wx → Calls Tryz.prog 43 #[.slice A n c, .slice A1 kg c1] wx (RstP wx B S) := fun wx hx => by
    rw [hS]
    exact rstand37_c (G := G) (B := B) (B1 := w.heap.size) (hrow.keep (fun k hk => ⟨hx.block k (hG k hk), hk⟩) (fun k hk => ⟨hx.block k (Nat.lt_of_lt_of_le hk hB), hk⟩)) (fun k hk => Nat.lt_of_lt_of_le (hG k hk) hx.size) (Nat.le_trans hB hx.size) hn hn1000 (hgl.below hx) hx.size hkg
  have hld : (lastC S).t.d.ok := by
    rcases Nat.eq_zero_or_pos S.length with h | h
    · rw [List.length_eq_zero_iff.1 h]; exact zNd_ok
    · obtain ⟨m, -, -, hm, e⟩ := last_mem (show S.length = (S.length - 1) + 1 by omega)
      rw [e]
      exact (hfit m (hSM m hm)).1
  have hfitS : ∀ m ∈ S, m.x.t.d.ok ∧ m.o.length ≤ 100000 := fun m hm => hfit m (hSM m hm)
  have hrowM : ∀ i (hi : i < M.length), ∃ gl of, A = some ⟨gl, of, none⟩ ∧ ∀ wz, Below w.heap.size w wz → wz.rangeAt gl (of + i * 32) M[i].id.cs := fun i hi => by
    obtain ⟨gl, of, e, hg, hr⟩ := hrow.2.2.resolve_left (fun e => by rw [e] at hi; exact absurd hi (Nat.not_lt_zero _))
    obtain ⟨A1, c1, Ao1, co1, q1, -, -⟩ := hr i hi
    exact ⟨gl, of, e, fun wz hz j v hv => (World.cell?_of_block (a := ⟨gl, of + i * 32 + j, none⟩) (hz.block gl (hG gl hg))).trans ((wr_row3 q1).1 j v hv)⟩
  have hcc : n ≤ c ∧ c ≤ 9223372036854775807 := ⟨by rw [hn]; exact hrow.1, hrow.2.1⟩
  have hc1 := hcc.1
  have hc2 := hcc.2
  have HRG := Lib.hid hr
  have HST := Lib.hid hst
  have HINC := Lib.hid (fun wx A n c => in_c wx A n c)
  have HGL := Lib.hid hgl
  have HKG := Lib.hid hkg
  have HSE := Lib.hid hS
  have HN := Lib.hid (And.intro hn (And.intro hns hno))
  have HIDL := Lib.hid (And.intro hidl hidl2)
  have HFS := Lib.hid hfitS
  have HLD := Lib.hid hld
  have HRM := Lib.hid hrowM
  have HBW := Lib.hid hB
  have HIK := Lib.hid (show ∀ x : Ik, (Tryz.prog.info? 28).map (·.size) = some x.cs.length from fun _ => ikInfo)
  have HIC := Lib.hid (show ∀ (x : Ct) (A : Option Addr) (c : Nat), (Tryz.prog.info? 37).map (·.size) = some (contA x A c).size ∧ (Tryz.prog.info? 37).map (·.size) = some (contA x A c).toList.length ∧ (contA zCt none 0).size = (contA x A c).size ∧ (contA x A c).all (·.oneCell') = true from fun x A c => ⟨infC, infC, rfl, cont_one _ _ _⟩)
  rw [← hn, ← hkg]
  clear hr hst hgl hkg hS hn hns hno hidl hidl2 hfitS hld hrowM hB hcc hrow hG hM hfit hSM
  go_enter Tryz.func20, Tryz.ntmps20
  go_upto_region 2 with (first | (go_at_call 14; refine (HRG.out.ids w (Below.refl _ _)).mono ?_; rintro e w2 ⟨A2, c2, rfl, hb2, ho2⟩; have H2 := Lib.hid (And.intro hb2 ho2); clear hb2 ho2) | (go_at_call 16; refine (HINC.out _ _ _ _).mono ?_; rintro e w3 ⟨rfl, hin⟩; have HIN3 := Lib.hid hin; clear hin) | (go_at_call 15; refine (HRG.out.shown w3 (in_at HGL.out HKG.out H2.out.1 HIN3.out).2 _ _ (in_at HGL.out HKG.out H2.out.1 HIN3.out).1).mono ?_; rintro e w4 ⟨A4, c4, rfl, hb4, ho4⟩; have H4 := Lib.hid (And.intro ((in_at HGL.out HKG.out H2.out.1 HIN3.out).2.trans (hb4.mono (in_at HGL.out HKG.out H2.out.1 HIN3.out).2.size)) (And.intro hb4 ho4)); clear hb4 ho4) | (go_at_call 43; refine (HST.out w4 H4.out.1).mono ?_; rintro e w5 ⟨A5, c5, rfl, hb5, hr5⟩; have H5 := Lib.hid (And.intro (H4.out.1.trans (hb5.mono H4.out.1.size)) (And.intro hb5 hr5)); clear hb5 hr5) | fail)
  rw [HIDL.out.1, ← HSE.out, HIDL.out.2, ← HN.out.2.1]
  go_upto_region 3 with (first | (go_at_call 16; refine (HINC.out _ _ _ _).mono ?_; rintro e w6 ⟨rfl, hin⟩; have HIN6 := Lib.hid hin; clear hin) | (go_at_call 17; refine (HRG.out.get w6 (in_at HGL.out HKG.out H5.out.1 HIN6.out).2 _ _ (in_at HGL.out HKG.out H5.out.1 HIN6.out).1).mono ?_; rw [← HSE.out]; rintro e w7 ⟨A7, c7, Ao7, co7, rfl, hs, hr, hb⟩; have H7 := Lib.hid (And.intro (H5.out.1.trans ((show Below w5.heap.size w5 w7 from by have h : Below w5.heap.size w5 w6 := (by rw [HIN6.out]; exact (bel1 _ _).1); exact h.trans (hb.mono h.size)).mono H5.out.1.size)) (And.intro (show Below w5.heap.size w5 w7 from by have h : Below w5.heap.size w5 w6 := (by rw [HIN6.out]; exact (bel1 _ _).1); exact h.trans (hb.mono h.size)) (And.intro hs hr))); clear hs hr hb; obtain ⟨CA7, hCA⟩ : ∃ C, C = contA (lastC S) A7 c7 := ⟨_, rfl⟩; have hia := HIC.out (lastC S) A7 c7; rw [← hCA] at hia ⊢; have HCA7 := Lib.hid (And.intro hCA hia); clear hCA hia) | (refine wpList_contVar rfl rfl w7.heap.size rfl ?_) | (refine wpList_storeFresh (w := w7) rfl 37 _ _ rfl w7.heap.size rfl CA7 rfl rfl HCA7.out.2.1 HCA7.out.2.2.2.1 HCA7.out.2.2.2.2 ?_) | fail)
  obtain ⟨w8, hw8⟩ : ∃ x, x = w7.alloc (.cells CA7 37) := ⟨_, rfl⟩
  obtain ⟨g8, hg8⟩ : ∃ g, g = w7.heap.size := ⟨_, rfl⟩
  rw [← hw8, ← hg8, ← HN.out.2.1, ← HN.out.2.2]
  have hb78 : Below w7.heap.size w7 w8 := by rw [hw8]; exact (bel1 _ _).1
  have hb8 : Below w.heap.size w w8 := H7.out.1.trans (hb78.mono H7.out.1.size)
  have hk8 : w8.heap[g8]? = some (.cells CA7 37) := by rw [hw8, hg8]; exact heap_alloc_new _ _
  have H8 := Lib.hid (And.intro hb8 (And.intro hb78 hk8))
  clear hw8 hg8 hb78 hb8 hk8
  go_upto_region 5 with (first | (go_at_call 44; refine (HRG.out.len w8 H8.out.1).mono ?_; rw [← HN.out.1]; rintro e w9 ⟨rfl, hb9⟩; have H9 := Lib.hid hb9; clear hb9) | fail)
  have hst9 : MoK w9 n (.int .i64 0) w9 := ⟨0, Nat.zero_le _, rfl, Lib.hid (Below.refl _ _)⟩
  have HST9 := Lib.hid hst9
  clear hst9
  have h29 : Below w2.heap.size w2 w9 := by
    have h3 : Below w2.heap.size w2 w3 := by rw [HIN3.out]; exact (bel1 _ _).1
    have h4 := h3.trans (H4.out.2.1.mono h3.size)
    have h5 := h4.trans (H5.out.2.1.mono h4.size)
    have h7 := h5.trans (H7.out.2.1.mono h5.size)
    have h8 := h7.trans (H8.out.2.1.mono h7.size)
    exact h8.trans (H9.out.mono h8.size)
  have h49 : Below w4.heap.size w4 w9 := by
    have h5 := H5.out.2.1
    have h7 := h5.trans (H7.out.2.1.mono h5.size)
    have h8 := h7.trans (H8.out.2.1.mono h7.size)
    exact h8.trans (H9.out.mono h8.size)
  have h59 : Below w5.heap.size w5 w9 := by
    have h7 := H7.out.2.1
    have h8 := h7.trans (H8.out.2.1.mono h7.size)
    exact h8.trans (H9.out.mono h8.size)
  have h79 : Below w7.heap.size w7 w9 := H8.out.2.1.trans (H9.out.mono H8.out.2.1.size)
  have h09 : Below w.heap.size w w9 := H8.out.1.trans (H9.out.mono H8.out.1.size)
  have hik2 : IkG w9 (fun b => b < w9.heap.size) A2 c2 (idsW M) := by
    have h := own_ikG H2.out.2 rfl
    exact h.keep (fun b hb => ⟨h29.block b hb.2, Nat.lt_of_lt_of_le hb.2 h29.size⟩)
  have hik4 : IkG w9 (fun b => b < w9.heap.size) A4 c4 (idsW S) := by
    have h := own_ikG H4.out.2.2 rfl
    rw [← HSE.out] at h
    exact h.keep (fun b hb => ⟨h49.block b hb.2, Nat.lt_of_lt_of_le hb.2 h49.size⟩)
  have hr5 : RowW w9 (fun b => b < w9.heap.size) (fun k => k < B) A5 c5 S := H5.out.2.2.keep (fun k hk => ⟨h59.block k hk.2, Nat.lt_of_lt_of_le hk.2 h59.size⟩) (fun k hk => ⟨h59.block k (Nat.lt_of_lt_of_le hk (Nat.le_trans HBW.out H5.out.1.size)), hk⟩)
  have hr7 : RowW w9 (fun b => b < w9.heap.size) (fun b => b < w9.heap.size) Ao7 co7 S.dropLast := H7.out.2.2.2.keep (fun k hk => ⟨h79.block k hk.2, Nat.lt_of_lt_of_le hk.2 h79.size⟩) (fun k hk => ⟨h79.block k hk.2, Nat.lt_of_lt_of_le hk.2 h79.size⟩)
  have hsl7 : SlAt w9 w9.heap.size A7 c7 (lastC S).t.l := ((H7.out.2.2.1.at_ (B := w7.heap.size) (fun _ _ h => h.2)).below h79).more h79.size
  have hk89 : w9.heap[g8]? = some (.cells CA7 37) := (H9.out.block g8 (Array.getElem?_eq_some_iff.1 H8.out.2.2).1).trans H8.out.2.2
  have hq : n ≤ c2 ∧ c2 ≤ 9223372036854775807 ∧ ns ≤ c4 ∧ c4 ≤ 9223372036854775807 ∧ ns ≤ c5 ∧ c5 ≤ 9223372036854775807 ∧ no ≤ co7 ∧ co7 ≤ 9223372036854775807 := by
    have e1 := hik2.1
    have e2 := hik4.1
    have e3 := hr5.1
    have e4 := hr7.1
    rw [HIDL.out.1] at e1
    rw [HIDL.out.2] at e2
    rw [← HN.out.2.1] at e3
    rw [List.length_dropLast, ← HN.out.2.1, ← HN.out.2.2] at e4
    exact ⟨e1, hik2.2.1, e2, hik4.2.1, e3, hr5.2.1, e4, hr7.2.1⟩
  obtain ⟨hq1, hq2, hq3, hq4, hq5, hq6, hq7, hq8⟩ := hq
  have HQ := Lib.hid (And.intro hik2 (And.intro hik4 (And.intro hr5 (And.intro hr7 (And.intro hsl7 hk89)))))
  have H09 := Lib.hid h09
  clear h29 h49 h59 h79 h09 hik2 hik4 hr5 hr7 hsl7 hk89
  go_wp2
  clear hmx
  go_loopw [62] (fun iv wr => MoK w9 n iv wr) (fun iv _ => n - (intOf iv).toNat)
  case atStart => exact HST9.out
  case round =>
   obtain ⟨i, hin, rfl, hR⟩ := hrel
   by_cases hi : i < n
   · have hiI : (i : Int) < (n : Int) := by omega
     have hi0 : (0 : Int) ≤ i := by omega
     have hiM : i < M.length := by rw [← HN.out.1]; exact hi
     have hiI2 : i < (idsW M).length := by rw [HIDL.out.1]; exact hi
     obtain ⟨gl, of, hA, hrM⟩ := HRM.out i hiM
     obtain ⟨q2, o2, hA2, hqq, hri⟩ := HQ.out.1.at_ i hiI2
     subst hA
     subst hA2
     obtain ⟨x, hx⟩ : ∃ x, x = M[i].id := ⟨_, rfl⟩
     have hxi : (idsW M)[i] = x := by rw [hx]; simp [idsW]
     rw [hxi] at hri
     rw [← hx] at hrM
     have HXR := Lib.hid (fun (wz : World) (hz : Below wr.heap.size wr wz) => show wz.rangeAt q2 (o2 + i * 2) x.cs ∧ wz.rangeAt gl (of + i * 32) x.cs from by
       have h9 : Below w9.heap.size w9 wz := hR.out.trans (hz.mono hR.out.size)
       exact ⟨fun j v hv => (World.cell?_of_block (a := ⟨q2, o2 + i * 2 + j, none⟩) (h9.block q2 hqq)).trans (hri j v hv), hrM wz (H09.out.trans (h9.mono H09.out.size))⟩)
     clear hri hrM hqq hx hxi hiM hiI2
     go_upto_region 8 with (fail)
     refine wp_region_held_drew (S := fun wz => Below wr.heap.size wr wz) (by kernel_rfl) (Below.refl _ _).drew (fun hHeld => ?_)
     obtain ⟨wa, hwa⟩ : ∃ x, x = wr.drew := ⟨_, rfl⟩
     rw [← hwa] at hHeld ⊢
     clear hwa
     refine wpAnyH_take (i := 0) (v := .slice (some ⟨q2, o2, none⟩) n c2) rfl (by kernel_rfl) (by kernel_rfl) (by kernel_rfl) (fun _ _ _ h => h) (Or.inl ⟨by kernel_rfl, fun _ hS => by kernel_rfl⟩) hHeld ?_
     (try simp only [Act.put, List.getElem_toArray, List.getElem_cons_succ, List.getElem_cons_zero, List.setIfInBounds_toArray, List.set_cons_zero, List.set_cons_succ])
     refine wpAnyH_take (i := 1) (v := .int .i64 (i : Nat)) rfl (by kernel_rfl) (by kernel_rfl) (by kernel_rfl) (fun _ _ _ h => h) (Or.inl ⟨by kernel_rfl, fun _ hS => by kernel_rfl⟩) hHeld ?_
     (try simp only [Act.put, List.getElem_toArray, List.getElem_cons_succ, List.getElem_cons_zero, List.setIfInBounds_toArray, List.set_cons_zero, List.set_cons_succ])
     refine wpAnyH_take (i := 2) (v := .pointer (some ⟨q2, o2 + i * 2, none⟩)) rfl (by kernel_rfl) (by kernel_rfl) (by kernel_rfl) (fun _ _ _ h => h) (Or.inl ⟨by kernel_rfl, fun _ hS => ix_atIo _ _ rfl q2 o2 n c2 i rfl rfl hi⟩) hHeld ?_
     (try simp only [Act.put, List.getElem_toArray, List.getElem_cons_succ, List.getElem_cons_zero, List.setIfInBounds_toArray, List.set_cons_zero, List.set_cons_succ])
     refine wpAnyH_take (i := 3) (v := .agg x.cs.toArray) rfl (by kernel_rfl) (by kernel_rfl) (by kernel_rfl) (fun _ _ _ h => h) (yieldsIf_load_mid (by kernel_rfl) 28 _ rfl q2 (o2 + i * 2) rfl x.cs _ (fun _ hS => (HXR.out _ hS).1) ikUnd rfl (HIK.out _)) hHeld ?_
     (try simp only [Act.put, List.getElem_toArray, List.getElem_cons_succ, List.getElem_cons_zero, List.setIfInBounds_toArray, List.set_cons_zero, List.set_cons_succ])
     refine wpAnyH_take (i := 4) (v := .slice (some ⟨gl, of, none⟩) n c) rfl (by kernel_rfl) (by kernel_rfl) (by kernel_rfl) (fun _ _ _ h => h) (Or.inl ⟨by kernel_rfl, fun _ hS => by kernel_rfl⟩) hHeld ?_
     (try simp only [Act.put, List.getElem_toArray, List.getElem_cons_succ, List.getElem_cons_zero, List.setIfInBounds_toArray, List.set_cons_zero, List.set_cons_succ])
     refine wpAnyH_take (i := 5) (v := .int .i64 (i : Nat)) rfl (by kernel_rfl) (by kernel_rfl) (by kernel_rfl) (fun _ _ _ h => h) (Or.inl ⟨by kernel_rfl, fun _ hS => by kernel_rfl⟩) hHeld ?_
     (try simp only [Act.put, List.getElem_toArray, List.getElem_cons_succ, List.getElem_cons_zero, List.setIfInBounds_toArray, List.set_cons_zero, List.set_cons_succ])
     refine wpAnyH_take (i := 6) (v := .pointer (some ⟨gl, of + i * 32, none⟩)) rfl (by kernel_rfl) (by kernel_rfl) (by kernel_rfl) (fun _ _ _ h => h) (Or.inl ⟨by kernel_rfl, fun _ hS => ix_at37 _ _ rfl gl of n c i rfl rfl hi⟩) hHeld ?_
     (try simp only [Act.put, List.getElem_toArray, List.getElem_cons_succ, List.getElem_cons_zero, List.setIfInBounds_toArray, List.set_cons_zero, List.set_cons_succ])
     refine wpAnyH_take (i := 7) (v := .pointer (some ⟨gl, of + i * 32, none⟩)) rfl (by kernel_rfl) (by kernel_rfl) (by kernel_rfl) (fun _ _ _ h => h) (Or.inl ⟨by kernel_rfl, fun _ hS => by kernel_rfl⟩) hHeld ?_
     (try simp only [Act.put, List.getElem_toArray, List.getElem_cons_succ, List.getElem_cons_zero, List.setIfInBounds_toArray, List.set_cons_zero, List.set_cons_succ])
     refine wpAnyH_take (i := 8) (v := .agg x.cs.toArray) rfl (by kernel_rfl) (by kernel_rfl) (by kernel_rfl) (fun _ _ _ h => h) (yieldsIf_load_mid (by kernel_rfl) 28 _ rfl gl (of + i * 32) rfl x.cs _ (fun _ hS => (HXR.out _ hS).2) ikUnd rfl (HIK.out _)) hHeld ?_
     (try simp only [Act.put, List.getElem_toArray, List.getElem_cons_succ, List.getElem_cons_zero, List.setIfInBounds_toArray, List.set_cons_zero, List.set_cons_succ])
     refine wpAnyH_take (i := 9) (v := .bool false) rfl (by kernel_rfl) (by kernel_rfl) (by kernel_rfl) (fun _ _ _ h => h) (Or.inl ⟨by kernel_rfl, fun _ hS => ik_ne_run _ _ rfl x x rfl rfl (by simp)⟩) hHeld ?_
     (try simp only [Act.put, List.getElem_toArray, List.getElem_cons_succ, List.getElem_cons_zero, List.setIfInBounds_toArray, List.set_cons_zero, List.set_cons_succ])
     have HE := Lib.hid hHeld
     refine wpAnyH_done (by kernel_rfl) ?_ _
     clear hHeld
     go_wp2
     go_roundw
     case measure => simp [intOf]; omega
     case rel => exact ⟨i + 1, by omega, by go_num, Lib.hid (hR.out.trans (HE.out.mono hR.out.size))⟩
   · have hie : n = i := by omega
     subst hie
     have hiI : ¬ ((n : Int) < (n : Int)) := by omega
     obtain ⟨w10, hw10⟩ : ∃ x, x = wr := ⟨_, rfl⟩
     have h910 : Below w9.heap.size w9 w10 := by rw [hw10]; exact hR.out
     rw [← hw10]
     have H910 := Lib.hid h910
     clear hR HST9 hw10 h910
     go_upto_region 12 with (first | (refine wpList_contVar rfl rfl w10.heap.size rfl ?_) | (refine wpList_storeFresh (w := w10) rfl 37 _ _ rfl w10.heap.size rfl (contA zCt none 0) rfl rfl infC rfl (cont_one _ _ _) ?_) | fail)
     obtain ⟨w11, hw11⟩ : ∃ x, x = w10.alloc (.cells (contA zCt none 0) 37) := ⟨_, rfl⟩
     obtain ⟨g13, hg13⟩ : ∃ g, g = w10.heap.size := ⟨_, rfl⟩
     have hsa : SaI w10 g13 S ns (.int .i64 0) w11 := ⟨0, Nat.zero_le _, rfl, none, 0, Lib.hid ⟨by rw [hw11]; exact (bel1 _ _).1, by rw [hw11, hg13]; exact heap_alloc_new _ _, slAt_nil _ _⟩⟩
     change Code.wp _ _ _ _ (w10.alloc (.cells (contA zCt none 0) 37))
     rw [← hw11, ← hg13]
     have HSA := Lib.hid hsa
     have HG13 := Lib.hid hg13
     clear hw11 hg13 hsa
     go_wp2
     go_loopw [79] (fun iv wr => SaI w10 g13 S ns iv wr) (fun iv _ => ns - (intOf iv).toNat)
     case atStart => exact HSA.out
     case round =>
      obtain ⟨i, hin, rfl, A', c', hR⟩ := hrel
      have h9r : Below w9.heap.size w9 wr := H910.out.trans (hR.out.1.mono H910.out.size)
      have H9R := Lib.hid h9r
      have hgs : g13 < wr.heap.size := (Array.getElem?_eq_some_iff.1 hR.out.2.1).1
      have hg9 : w9.heap.size ≤ g13 := by have := HG13.out; have := H910.out.size; omega
      clear h9r
      by_cases hi : i < ns
      · have hiI : (i : Int) < (ns : Int) := by omega
        have hi0 : (0 : Int) ≤ i := by omega
        have hiS : i < S.length := by rw [← HN.out.2.1]; exact hi
        have hiI4 : i < (idsW S).length := by rw [HIDL.out.2]; exact hi
        obtain ⟨q5, o5, hA5, hg5, hr5⟩ := HQ.out.2.2.1.2.2.resolve_left (fun e => by rw [e] at hiS; exact absurd hiS (Nat.not_lt_zero _))
        obtain ⟨A5', c5', Ao5, co5, hq51, hq52, hq53⟩ := hr5 i hiS
        obtain ⟨q4, o4, hA4, hqq, hri⟩ := HQ.out.2.1.at_ i hiI4
        subst hA5
        subst hA4
        obtain ⟨m, hm⟩ : ∃ x, x = S[i] := ⟨_, rfl⟩
        rw [← hm] at hq51 hq52 hq53
        obtain ⟨x, hx⟩ : ∃ x, x = m.id := ⟨_, rfl⟩
        have hxi : (idsW S)[i] = x := by rw [hx, hm]; simp [idsW]
        rw [hxi] at hri
        have hmf := HFS.out m (by rw [hm]; exact List.getElem_mem hiS)
        obtain ⟨CW, hCW⟩ : ∃ C, C = wrA m A5' c5' Ao5 co5 := ⟨_, rfl⟩
        obtain ⟨CX, hCX⟩ : ∃ C, C = contA m.x A5' c5' := ⟨_, rfl⟩
        obtain ⟨gb, hgb⟩ : ∃ b, b = wr.heap.size := ⟨_, rfl⟩
        obtain ⟨w11, hw11⟩ : ∃ w5, w5 = wr.alloc (.cells CW 46) := ⟨_, rfl⟩
        obtain ⟨w12, hw12⟩ : ∃ x, x = w11.setRow g13 CX := ⟨_, rfl⟩
        have hb11 : Below wr.heap.size wr w11 := by rw [hw11]; exact (bel1 _ _).1
        have hk11 : w11.heap[gb]? = some (.cells CW 46) := by rw [hw11, hgb]; exact heap_alloc_new _ _
        have hk13 : w11.heap[g13]? = some (.cells (contA (lastC (S.take i)) A' c') 37) := (hb11.block g13 hgs).trans hR.out.2.1
        have hb12 : Below w10.heap.size w10 w12 := by rw [hw12]; exact below_row (hR.out.1.trans (hb11.mono hR.out.1.size)) (by have := HG13.out; omega) _
        have hk12 : w12.heap[g13]? = some (.cells CX 37) := by rw [hw12]; exact setRow_heap _ _ _ _ _ _ hk13
        have hb912 : Below w9.heap.size w9 w12 := H910.out.trans (hb12.mono H910.out.size)
        have hkb12 : w12.heap[gb]? = some (.cells CW 46) := by rw [hw12]; exact (setRow_other _ _ _ _ (by omega)).trans hk11
        have hrrow : wr.rangeAt q5 (o5 + i * 32) CW.toList := fun j v hv => (World.cell?_of_block (a := ⟨q5, o5 + i * 32 + j, none⟩) (H9R.out.block q5 hg5)).trans (hq51 j v (by rw [← hCW]; exact hv))
        have hcx11 : w11.rangeAt gb 2 CX.toList := by rw [hCX]; exact (wr_rows (by rw [← hCW]; exact hk11)).2.1
        have hic := rw_info m A5' c5' Ao5 co5
        have h1w := wrA_one m A5' c5' Ao5 co5
        have hzs : (wrA zWr none 0 none 0).size = (wrA m A5' c5' Ao5 co5).size := rfl
        have hixx := HIC.out m.x A5' c5'
        have hzc : (contA (lastC (S.take i)) A' c').size = CX.size := by rw [hCX]; rfl
        rw [← hCW] at hic h1w hzs
        rw [← hCX] at hixx
        have hlc : lastC (S.take (i + 1)) = m.x := by rw [lastC_take hiS, hm]
        have hsl12 : SlAt w12 w12.heap.size A5' c5' m.x.t.l := by
          have h := (hq52.at_ (B := B) (fun _ _ h => h))
          have hBB : B ≤ w9.heap.size := Nat.le_trans HBW.out H09.out.size
          exact (h.below (hb912.mono hBB)).more (Nat.le_trans hBB hb912.size)
        have hio12 : IkG w12 (fun k => k < w12.heap.size) Ao5 co5 m.o := by
          have hBB : B ≤ w9.heap.size := Nat.le_trans HBW.out H09.out.size
          exact (hq53.below (hb912.mono hBB)).mono (fun k hk => Nat.lt_of_lt_of_le hk (Nat.le_trans hBB hb912.size))
        have H16 := Lib.hid (fun (wz : World) (hz : Below w12.heap.size w12 wz) => show wz.rangeAt q4 (o4 + i * 2) x.cs ∧ wz.rangeAt gb 0 x.cs ∧ wz.rangeAt gb 0 CW.toList from by
          have h9 : Below w9.heap.size w9 wz := hb912.trans (hz.mono hb912.size)
          have hg : wz.heap[gb]? = some (.cells CW 46) := (hz.block gb (Array.getElem?_eq_some_iff.1 hkb12).1).trans hkb12
          refine ⟨fun j v hv => (World.cell?_of_block (a := ⟨q4, o4 + i * 2 + j, none⟩) (h9.block q4 hqq)).trans (hri j v hv), ?_, row_range_ hg _ _ (fun j v hv => by rw [Nat.zero_add, ← Array.getElem?_toList]; exact hv)⟩
          rw [hx]; exact (wr_rows (by rw [← hCW]; exact hg)).1)
        have hot : i < no → ∃ q7 o7, Ao7 = some ⟨q7, o7, none⟩ ∧ ∃ CB : Array Value, (Tryz.prog.info? 49).map (·.size) = some CB.toList.length ∧ ∀ wz, Below w12.heap.size w12 wz → wz.rangeAt q7 (o7 + i * 32) CB.toList ∧ Calls Tryz.prog 45 #[.agg CB, .agg CW] wz fun e w' => e = .returned (.bool true) ∧ Below wz.heap.size wz w' := fun hio => by
          have hdl : i < S.dropLast.length := by rw [List.length_dropLast, ← HN.out.2.1, ← HN.out.2.2]; exact hio
          obtain ⟨q7, o7, e, hg7, hr7⟩ := HQ.out.2.2.2.1.2.2.resolve_left (fun e => by rw [e] at hdl; exact absurd hdl (Nat.not_lt_zero _))
          obtain ⟨A6, c6, Ao6, co6, p1, p2, p3⟩ := hr7 i hdl
          have hmm : S.dropLast[i] = m := by rw [hm]; simp
          rw [hmm] at p1 p2 p3
          refine ⟨q7, o7, e, wrA m A6 c6 Ao6 co6, (wr_idx _ _ _ _ _).2, fun wz hz => ?_⟩
          have h9 : Below w9.heap.size w9 wz := hb912.trans (hz.mono hb912.size)
          refine ⟨fun j v hv => (World.cell?_of_block (a := ⟨q7, o7 + i * 32 + j, none⟩) (h9.block q7 hg7)).trans (p1 j v hv), ?_⟩
          rw [hCW]
          exact same37_c wz wz.heap.size m A6 A5' c6 c5' Ao6 Ao5 co6 co5 hmf.1 (((p2.at_ (B := w9.heap.size) (fun _ _ h => h)).below h9).more h9.size) ((hsl12.below hz).more hz.size) ((p3.below h9).mono (fun k hk => Nat.lt_of_lt_of_le hk h9.size)) ((hio12.below hz).mono (fun k hk => Nat.lt_of_lt_of_le hk hz.size)) (Nat.le_refl _) hmf.2
        have HOT0 := Lib.hid hot
        have HX := Lib.hid (And.intro hrrow (And.intro hic (And.intro h1w (And.intro hzs (And.intro hcx11 (And.intro hk13 (And.intro hsl12 (And.intro hixx hzc))))))))
        have HB12 := Lib.hid hb12
        have HB1112 := Lib.hid (Below.refl w12.heap.size w12)
        have HK13 := Lib.hid hk12
        have HLC := Lib.hid hlc
        have HCX := Lib.hid hCX
        have HCW := Lib.hid hic
        have HW12 := Lib.hid hw12
        have HW11 := Lib.hid (And.intro hw11 hgb)
        clear hw11 hw12 hb11 hk11 hk13 hb12 hk12 hb912 hkb12 hrrow hcx11 hic h1w hzs hixx hzc hlc hsl12 hio12 hot hCX hCW hgb hx hxi hri hqq hm hmf hq51 hq52 hq53 hr5 hg5 hiS hiI4 hgs hg9
        go_upto_region 15 with (first | (refine wpList_mid rfl 46 _ rfl q5 (o5 + i * 32) rfl CW.toList _ HX.out.1 undRw rfl HX.out.2.1.2 ?_; simp only [Array.toArray_toList]) | (refine wpList_rwVar rfl rfl wr.heap.size rfl ?_) | (refine wpList_storeFresh (w := wr) rfl 46 _ _ rfl wr.heap.size rfl CW rfl rfl HX.out.2.1.1 HX.out.2.2.2.1 HX.out.2.2.1 ?_) | fail)
        rw [← HW11.out.1, ← HW11.out.2]
        go_upto_region 16 with (first | (refine wpList_mid rfl 37 _ rfl gb 2 rfl CX.toList _ HX.out.2.2.2.2.1 undC rfl HX.out.2.2.2.2.2.2.2.1.2.1 ?_; simp only [Array.toArray_toList]) | (refine wpList_store_row rfl 37 _ _ rfl g13 CX rfl rfl 37 _ HX.out.2.2.2.2.2.1 HX.out.2.2.2.2.2.2.2.1.1 HX.out.2.2.2.2.2.2.2.2 HX.out.2.2.2.2.2.2.2.1.2.2.2 ?_) | fail)
        rw [← HW12.out]
        by_cases hio : i < no
        · obtain ⟨q7, o7, hA7, CB, hCB, hotc⟩ := HOT0.out hio
          subst hA7
          have HCB := Lib.hid hCB
          have HOT := Lib.hid hotc
          clear hCB hotc
          refine wp_region_held_drew (S := fun wz => Below w12.heap.size w12 wz) (by kernel_rfl) (Below.refl _ _).drew (fun hHeld => ?_)
          obtain ⟨wa, hwa⟩ : ∃ x, x = w12.drew := ⟨_, rfl⟩
          rw [← hwa] at hHeld ⊢
          clear hwa
          refine wpAnyH_take (i := 0) (v := .slice (some ⟨q4, o4, none⟩) ns c4) rfl (by kernel_rfl) (by kernel_rfl) (by kernel_rfl) (fun _ _ _ h => h) (Or.inl ⟨by kernel_rfl, fun _ hS => by kernel_rfl⟩) hHeld ?_
          (try simp only [Act.put, List.getElem_toArray, List.getElem_cons_succ, List.getElem_cons_zero, List.setIfInBounds_toArray, List.set_cons_zero, List.set_cons_succ])
          refine wpAnyH_take (i := 1) (v := .int .i64 (i : Nat)) rfl (by kernel_rfl) (by kernel_rfl) (by kernel_rfl) (fun _ _ _ h => h) (Or.inl ⟨by kernel_rfl, fun _ hS => by kernel_rfl⟩) hHeld ?_
          (try simp only [Act.put, List.getElem_toArray, List.getElem_cons_succ, List.getElem_cons_zero, List.setIfInBounds_toArray, List.set_cons_zero, List.set_cons_succ])
          refine wpAnyH_take (i := 2) (v := .pointer (some ⟨q4, o4 + i * 2, none⟩)) rfl (by kernel_rfl) (by kernel_rfl) (by kernel_rfl) (fun _ _ _ h => h) (Or.inl ⟨by kernel_rfl, fun _ hS => ix_atIo _ _ rfl q4 o4 ns c4 i rfl rfl hi⟩) hHeld ?_
          (try simp only [Act.put, List.getElem_toArray, List.getElem_cons_succ, List.getElem_cons_zero, List.setIfInBounds_toArray, List.set_cons_zero, List.set_cons_succ])
          refine wpAnyH_take (i := 3) (v := .agg x.cs.toArray) rfl (by kernel_rfl) (by kernel_rfl) (by kernel_rfl) (fun _ _ _ h => h) (yieldsIf_load_mid (by kernel_rfl) 28 _ rfl q4 (o4 + i * 2) rfl x.cs _ (fun _ hS => (H16.out _ hS).1) ikUnd rfl (HIK.out _)) hHeld ?_
          (try simp only [Act.put, List.getElem_toArray, List.getElem_cons_succ, List.getElem_cons_zero, List.setIfInBounds_toArray, List.set_cons_zero, List.set_cons_succ])
          refine wpAnyH_take (i := 4) (v := .pointer (some ⟨gb, 0, none⟩)) rfl (by kernel_rfl) (by kernel_rfl) (by kernel_rfl) (fun _ _ _ h => h) (Or.inl ⟨by kernel_rfl, fun _ hS => by kernel_rfl⟩) hHeld ?_
          (try simp only [Act.put, List.getElem_toArray, List.getElem_cons_succ, List.getElem_cons_zero, List.setIfInBounds_toArray, List.set_cons_zero, List.set_cons_succ])
          refine wpAnyH_take (i := 5) (v := .agg x.cs.toArray) rfl (by kernel_rfl) (by kernel_rfl) (by kernel_rfl) (fun _ _ _ h => h) (yieldsIf_load_mid (by kernel_rfl) 28 _ rfl gb 0 rfl x.cs _ (fun _ hS => (H16.out _ hS).2.1) ikUnd rfl (HIK.out _)) hHeld ?_
          (try simp only [Act.put, List.getElem_toArray, List.getElem_cons_succ, List.getElem_cons_zero, List.setIfInBounds_toArray, List.set_cons_zero, List.set_cons_succ])
          refine wpAnyH_take (i := 6) (v := .bool false) rfl (by kernel_rfl) (by kernel_rfl) (by kernel_rfl) (fun _ _ _ h => h) (Or.inl ⟨by kernel_rfl, fun _ hS => ik_ne_run _ _ rfl x x rfl rfl (by simp)⟩) hHeld ?_
          (try simp only [Act.put, List.getElem_toArray, List.getElem_cons_succ, List.getElem_cons_zero, List.setIfInBounds_toArray, List.set_cons_zero, List.set_cons_succ])
          refine wpAnyH_take (i := 7) (v := .bool false) rfl (by kernel_rfl) (by kernel_rfl) (by kernel_rfl) (fun _ _ _ h => h) (Or.inl ⟨by kernel_rfl, fun _ hS => by kernel_rfl⟩) hHeld ?_
          (try simp only [Act.put, List.getElem_toArray, List.getElem_cons_succ, List.getElem_cons_zero, List.setIfInBounds_toArray, List.set_cons_zero, List.set_cons_succ])
          refine wpAnyH_take (i := 8) (v := .int .i64 (i : Nat)) rfl (by kernel_rfl) (by kernel_rfl) (by kernel_rfl) (fun _ _ _ h => h) (Or.inl ⟨by kernel_rfl, fun _ hS => by kernel_rfl⟩) hHeld ?_
          (try simp only [Act.put, List.getElem_toArray, List.getElem_cons_succ, List.getElem_cons_zero, List.setIfInBounds_toArray, List.set_cons_zero, List.set_cons_succ])
          refine wpAnyH_take (i := 9) (v := .slice (some ⟨q7, o7, none⟩) no co7) rfl (by kernel_rfl) (by kernel_rfl) (by kernel_rfl) (fun _ _ _ h => h) (Or.inl ⟨by kernel_rfl, fun _ hS => by kernel_rfl⟩) hHeld ?_
          (try simp only [Act.put, List.getElem_toArray, List.getElem_cons_succ, List.getElem_cons_zero, List.setIfInBounds_toArray, List.set_cons_zero, List.set_cons_succ])
          refine wpAnyH_take (i := 10) (v := .int .i64 no) rfl (by kernel_rfl) (by kernel_rfl) (by kernel_rfl) (fun _ _ _ h => h) (Or.inl ⟨by kernel_rfl, fun _ hS => by kernel_rfl⟩) hHeld ?_
          (try simp only [Act.put, List.getElem_toArray, List.getElem_cons_succ, List.getElem_cons_zero, List.setIfInBounds_toArray, List.set_cons_zero, List.set_cons_succ])
          refine wpAnyH_take (i := 11) (v := .bool true) rfl (by kernel_rfl) (by kernel_rfl) (by kernel_rfl) (fun _ _ _ h => h) (Or.inl ⟨by kernel_rfl, fun _ hS => lss_run _ _ rfl rfl rfl (decide_eq_true (by omega))⟩) hHeld ?_
          (try simp only [Act.put, List.getElem_toArray, List.getElem_cons_succ, List.getElem_cons_zero, List.setIfInBounds_toArray, List.set_cons_zero, List.set_cons_succ])
          refine wpAnyH_take (i := 12) (v := .bool true) rfl (by kernel_rfl) (by kernel_rfl) (by kernel_rfl) (fun _ _ _ h => h) (Or.inl ⟨by kernel_rfl, fun _ hS => by kernel_rfl⟩) hHeld ?_
          (try simp only [Act.put, List.getElem_toArray, List.getElem_cons_succ, List.getElem_cons_zero, List.setIfInBounds_toArray, List.set_cons_zero, List.set_cons_succ])
          refine wpAnyH_take (i := 13) (v := .slice (some ⟨q7, o7, none⟩) no co7) rfl (by kernel_rfl) (by kernel_rfl) (by kernel_rfl) (fun _ _ _ h => h) (Or.inl ⟨by kernel_rfl, fun _ hS => by kernel_rfl⟩) hHeld ?_
          (try simp only [Act.put, List.getElem_toArray, List.getElem_cons_succ, List.getElem_cons_zero, List.setIfInBounds_toArray, List.set_cons_zero, List.set_cons_succ])
          refine wpAnyH_take (i := 14) (v := .int .i64 (i : Nat)) rfl (by kernel_rfl) (by kernel_rfl) (by kernel_rfl) (fun _ _ _ h => h) (Or.inl ⟨by kernel_rfl, fun _ hS => by kernel_rfl⟩) hHeld ?_
          (try simp only [Act.put, List.getElem_toArray, List.getElem_cons_succ, List.getElem_cons_zero, List.setIfInBounds_toArray, List.set_cons_zero, List.set_cons_succ])
          refine wpAnyH_take (i := 15) (v := .pointer (some ⟨q7, o7 + i * 32, none⟩)) rfl (by kernel_rfl) (by kernel_rfl) (by kernel_rfl) (fun _ _ _ h => h) (Or.inl ⟨by kernel_rfl, fun _ hS => ix_at37r _ _ rfl q7 o7 no co7 i rfl rfl hio⟩) hHeld ?_
          (try simp only [Act.put, List.getElem_toArray, List.getElem_cons_succ, List.getElem_cons_zero, List.setIfInBounds_toArray, List.set_cons_zero, List.set_cons_succ])
          refine wpAnyH_take (i := 16) (v := .agg CB.toList.toArray) rfl (by kernel_rfl) (by kernel_rfl) (by kernel_rfl) (fun _ _ _ h => h) (yieldsIf_load_mid (by kernel_rfl) 49 _ rfl q7 (o7 + i * 32) rfl CB.toList _ (fun _ hS => (HOT.out _ hS).1) undWr rfl HCB.out) hHeld ?_
          (try simp only [Act.put, List.getElem_toArray, List.getElem_cons_succ, List.getElem_cons_zero, List.setIfInBounds_toArray, List.set_cons_zero, List.set_cons_succ])
          refine wpAnyH_take (i := 17) (v := .agg CW.toList.toArray) rfl (by kernel_rfl) (by kernel_rfl) (by kernel_rfl) (fun _ _ _ h => h) (yieldsIf_load_mid (by kernel_rfl) 46 _ rfl gb 0 rfl CW.toList _ (fun _ hS => (H16.out _ hS).2.2) undRw rfl HCW.out.2) hHeld ?_
          (try simp only [Act.put, List.getElem_toArray, List.getElem_cons_succ, List.getElem_cons_zero, List.setIfInBounds_toArray, List.set_cons_zero, List.set_cons_succ])
          refine wpAnyH_ready (rs := [18]) (by kernel_rfl) (by simp) ?_
          refine AllReadyH.cons rfl (fun K hK => ?_) AllReadyH.nil
          go_simp
          try simp only [Array.toArray_toList]
          refine (HOT.out wa hHeld).2.mono ?_
          rintro e wb ⟨rfl, hbb⟩
          try go_simp
          have hbb2 := hHeld.trans (hbb.mono hHeld.size)
          refine hK.out _ _ hbb2 (fun hHeld1 => ?_)
          clear hK K hHeld hbb2
          have hHeld := hHeld1
          clear hHeld1
          (try simp only [Act.put, List.getElem_toArray, List.getElem_cons_succ, List.getElem_cons_zero, List.setIfInBounds_toArray, List.set_cons_zero, List.set_cons_succ])
          clear hbb
          refine wpAnyH_take (i := 19) (v := .bool false) rfl (by kernel_rfl) (by kernel_rfl) (by kernel_rfl) (fun _ _ _ h => h) (Or.inl ⟨by kernel_rfl, fun _ hS => by kernel_rfl⟩) hHeld ?_
          (try simp only [Act.put, List.getElem_toArray, List.getElem_cons_succ, List.getElem_cons_zero, List.setIfInBounds_toArray, List.set_cons_zero, List.set_cons_succ])
          refine wpAnyH_take (i := 20) (v := .bool false) rfl (by kernel_rfl) (by kernel_rfl) (by kernel_rfl) (fun _ _ _ h => h) (Or.inl ⟨by kernel_rfl, fun _ hS => by kernel_rfl⟩) hHeld ?_
          (try simp only [Act.put, List.getElem_toArray, List.getElem_cons_succ, List.getElem_cons_zero, List.setIfInBounds_toArray, List.set_cons_zero, List.set_cons_succ])
          refine wpAnyH_take (i := 21) (v := .bool false) rfl (by kernel_rfl) (by kernel_rfl) (by kernel_rfl) (fun _ _ _ h => h) (Or.inl ⟨by kernel_rfl, fun _ hS => by kernel_rfl⟩) hHeld ?_
          (try simp only [Act.put, List.getElem_toArray, List.getElem_cons_succ, List.getElem_cons_zero, List.setIfInBounds_toArray, List.set_cons_zero, List.set_cons_succ])
          have HE := Lib.hid hHeld
          refine wpAnyH_done (by kernel_rfl) ?_ _
          clear hHeld
          go_wp2
          go_roundw
          case measure => simp [intOf]; omega
          case rel =>
            refine ⟨i + 1, by omega, by go_num, A5', c5', Lib.hid ⟨HB12.out.trans (HE.out.mono (by have := HB12.out.size; omega)), ?_, ?_⟩⟩
            · rw [HLC.out, ← HCX.out]; exact (HE.out.block g13 (Array.getElem?_eq_some_iff.1 HK13.out).1).trans HK13.out
            · rw [HLC.out]
              have h := HX.out.2.2.2.2.2.2.1
              exact ((h.below (HB1112.out.trans (HE.out.mono HB1112.out.size))).more (by have := HB1112.out.size; have := HE.out.size; omega))
        · skip
          refine wp_region_held_drew (S := fun wz => Below w12.heap.size w12 wz) (by kernel_rfl) (Below.refl _ _).drew (fun hHeld => ?_)
          obtain ⟨wa, hwa⟩ : ∃ x, x = w12.drew := ⟨_, rfl⟩
          rw [← hwa] at hHeld ⊢
          clear hwa
          refine wpAnyH_take (i := 0) (v := .slice (some ⟨q4, o4, none⟩) ns c4) rfl (by kernel_rfl) (by kernel_rfl) (by kernel_rfl) (fun _ _ _ h => h) (Or.inl ⟨by kernel_rfl, fun _ hS => by kernel_rfl⟩) hHeld ?_
          (try simp only [Act.put, List.getElem_toArray, List.getElem_cons_succ, List.getElem_cons_zero, List.setIfInBounds_toArray, List.set_cons_zero, List.set_cons_succ])
          refine wpAnyH_take (i := 1) (v := .int .i64 (i : Nat)) rfl (by kernel_rfl) (by kernel_rfl) (by kernel_rfl) (fun _ _ _ h => h) (Or.inl ⟨by kernel_rfl, fun _ hS => by kernel_rfl⟩) hHeld ?_
          (try simp only [Act.put, List.getElem_toArray, List.getElem_cons_succ, List.getElem_cons_zero, List.setIfInBounds_toArray, List.set_cons_zero, List.set_cons_succ])
          refine wpAnyH_take (i := 2) (v := .pointer (some ⟨q4, o4 + i * 2, none⟩)) rfl (by kernel_rfl) (by kernel_rfl) (by kernel_rfl) (fun _ _ _ h => h) (Or.inl ⟨by kernel_rfl, fun _ hS => ix_atIo _ _ rfl q4 o4 ns c4 i rfl rfl hi⟩) hHeld ?_
          (try simp only [Act.put, List.getElem_toArray, List.getElem_cons_succ, List.getElem_cons_zero, List.setIfInBounds_toArray, List.set_cons_zero, List.set_cons_succ])
          refine wpAnyH_take (i := 3) (v := .agg x.cs.toArray) rfl (by kernel_rfl) (by kernel_rfl) (by kernel_rfl) (fun _ _ _ h => h) (yieldsIf_load_mid (by kernel_rfl) 28 _ rfl q4 (o4 + i * 2) rfl x.cs _ (fun _ hS => (H16.out _ hS).1) ikUnd rfl (HIK.out _)) hHeld ?_
          (try simp only [Act.put, List.getElem_toArray, List.getElem_cons_succ, List.getElem_cons_zero, List.setIfInBounds_toArray, List.set_cons_zero, List.set_cons_succ])
          refine wpAnyH_take (i := 4) (v := .pointer (some ⟨gb, 0, none⟩)) rfl (by kernel_rfl) (by kernel_rfl) (by kernel_rfl) (fun _ _ _ h => h) (Or.inl ⟨by kernel_rfl, fun _ hS => by kernel_rfl⟩) hHeld ?_
          (try simp only [Act.put, List.getElem_toArray, List.getElem_cons_succ, List.getElem_cons_zero, List.setIfInBounds_toArray, List.set_cons_zero, List.set_cons_succ])
          refine wpAnyH_take (i := 5) (v := .agg x.cs.toArray) rfl (by kernel_rfl) (by kernel_rfl) (by kernel_rfl) (fun _ _ _ h => h) (yieldsIf_load_mid (by kernel_rfl) 28 _ rfl gb 0 rfl x.cs _ (fun _ hS => (H16.out _ hS).2.1) ikUnd rfl (HIK.out _)) hHeld ?_
          (try simp only [Act.put, List.getElem_toArray, List.getElem_cons_succ, List.getElem_cons_zero, List.setIfInBounds_toArray, List.set_cons_zero, List.set_cons_succ])
          refine wpAnyH_take (i := 6) (v := .bool false) rfl (by kernel_rfl) (by kernel_rfl) (by kernel_rfl) (fun _ _ _ h => h) (Or.inl ⟨by kernel_rfl, fun _ hS => ik_ne_run _ _ rfl x x rfl rfl (by simp)⟩) hHeld ?_
          (try simp only [Act.put, List.getElem_toArray, List.getElem_cons_succ, List.getElem_cons_zero, List.setIfInBounds_toArray, List.set_cons_zero, List.set_cons_succ])
          refine wpAnyH_take (i := 7) (v := .bool false) rfl (by kernel_rfl) (by kernel_rfl) (by kernel_rfl) (fun _ _ _ h => h) (Or.inl ⟨by kernel_rfl, fun _ hS => by kernel_rfl⟩) hHeld ?_
          (try simp only [Act.put, List.getElem_toArray, List.getElem_cons_succ, List.getElem_cons_zero, List.setIfInBounds_toArray, List.set_cons_zero, List.set_cons_succ])
          refine wpAnyH_take (i := 8) (v := .int .i64 (i : Nat)) rfl (by kernel_rfl) (by kernel_rfl) (by kernel_rfl) (fun _ _ _ h => h) (Or.inl ⟨by kernel_rfl, fun _ hS => by kernel_rfl⟩) hHeld ?_
          (try simp only [Act.put, List.getElem_toArray, List.getElem_cons_succ, List.getElem_cons_zero, List.setIfInBounds_toArray, List.set_cons_zero, List.set_cons_succ])
          refine wpAnyH_take (i := 9) (v := .slice Ao7 no co7) rfl (by kernel_rfl) (by kernel_rfl) (by kernel_rfl) (fun _ _ _ h => h) (Or.inl ⟨by kernel_rfl, fun _ hS => by kernel_rfl⟩) hHeld ?_
          (try simp only [Act.put, List.getElem_toArray, List.getElem_cons_succ, List.getElem_cons_zero, List.setIfInBounds_toArray, List.set_cons_zero, List.set_cons_succ])
          refine wpAnyH_take (i := 10) (v := .int .i64 no) rfl (by kernel_rfl) (by kernel_rfl) (by kernel_rfl) (fun _ _ _ h => h) (Or.inl ⟨by kernel_rfl, fun _ hS => by kernel_rfl⟩) hHeld ?_
          (try simp only [Act.put, List.getElem_toArray, List.getElem_cons_succ, List.getElem_cons_zero, List.setIfInBounds_toArray, List.set_cons_zero, List.set_cons_succ])
          refine wpAnyH_take (i := 11) (v := .bool false) rfl (by kernel_rfl) (by kernel_rfl) (by kernel_rfl) (fun _ _ _ h => h) (Or.inl ⟨by kernel_rfl, fun _ hS => lss_run _ _ rfl rfl rfl (decide_eq_false (by omega))⟩) hHeld ?_
          (try simp only [Act.put, List.getElem_toArray, List.getElem_cons_succ, List.getElem_cons_zero, List.setIfInBounds_toArray, List.set_cons_zero, List.set_cons_succ])
          refine wpAnyH_take (i := 12) (v := .bool false) rfl (by kernel_rfl) (by kernel_rfl) (by kernel_rfl) (fun _ _ _ h => h) (Or.inl ⟨by kernel_rfl, fun _ hS => by kernel_rfl⟩) hHeld ?_
          (try simp only [Act.put, List.getElem_toArray, List.getElem_cons_succ, List.getElem_cons_zero, List.setIfInBounds_toArray, List.set_cons_zero, List.set_cons_succ])
          refine wpAnyH_take (i := 13) (v := undef) rfl (by kernel_rfl) (by kernel_rfl) (by kernel_rfl) (fun _ _ _ h => h) (Or.inr ⟨by kernel_rfl, rfl⟩) hHeld ?_
          (try simp only [Act.put, List.getElem_toArray, List.getElem_cons_succ, List.getElem_cons_zero, List.setIfInBounds_toArray, List.set_cons_zero, List.set_cons_succ])
          refine wpAnyH_take (i := 14) (v := undef) rfl (by kernel_rfl) (by kernel_rfl) (by kernel_rfl) (fun _ _ _ h => h) (Or.inr ⟨by kernel_rfl, rfl⟩) hHeld ?_
          (try simp only [Act.put, List.getElem_toArray, List.getElem_cons_succ, List.getElem_cons_zero, List.setIfInBounds_toArray, List.set_cons_zero, List.set_cons_succ])
          refine wpAnyH_take (i := 15) (v := undef) rfl (by kernel_rfl) (by kernel_rfl) (by kernel_rfl) (fun _ _ _ h => h) (Or.inr ⟨by kernel_rfl, rfl⟩) hHeld ?_
          (try simp only [Act.put, List.getElem_toArray, List.getElem_cons_succ, List.getElem_cons_zero, List.setIfInBounds_toArray, List.set_cons_zero, List.set_cons_succ])
          refine wpAnyH_take (i := 16) (v := undef) rfl (by kernel_rfl) (by kernel_rfl) (by kernel_rfl) (fun _ _ _ h => h) (Or.inr ⟨by kernel_rfl, rfl⟩) hHeld ?_
          (try simp only [Act.put, List.getElem_toArray, List.getElem_cons_succ, List.getElem_cons_zero, List.setIfInBounds_toArray, List.set_cons_zero, List.set_cons_succ])
          refine wpAnyH_take (i := 17) (v := undef) rfl (by kernel_rfl) (by kernel_rfl) (by kernel_rfl) (fun _ _ _ h => h) (Or.inr ⟨by kernel_rfl, rfl⟩) hHeld ?_
          (try simp only [Act.put, List.getElem_toArray, List.getElem_cons_succ, List.getElem_cons_zero, List.setIfInBounds_toArray, List.set_cons_zero, List.set_cons_succ])
          refine wpAnyH_take (i := 18) (v := undef) rfl (by kernel_rfl) (by kernel_rfl) (by kernel_rfl) (fun _ _ _ h => h) (Or.inr ⟨by kernel_rfl, rfl⟩) hHeld ?_
          (try simp only [Act.put, List.getElem_toArray, List.getElem_cons_succ, List.getElem_cons_zero, List.setIfInBounds_toArray, List.set_cons_zero, List.set_cons_succ])
          refine wpAnyH_take (i := 19) (v := undef) rfl (by kernel_rfl) (by kernel_rfl) (by kernel_rfl) (fun _ _ _ h => h) (Or.inr ⟨by kernel_rfl, rfl⟩) hHeld ?_
          (try simp only [Act.put, List.getElem_toArray, List.getElem_cons_succ, List.getElem_cons_zero, List.setIfInBounds_toArray, List.set_cons_zero, List.set_cons_succ])
          refine wpAnyH_take (i := 20) (v := .bool false) rfl (by kernel_rfl) (by kernel_rfl) (by kernel_rfl) (fun _ _ _ h => h) (Or.inl ⟨by kernel_rfl, fun _ hS => by kernel_rfl⟩) hHeld ?_
          (try simp only [Act.put, List.getElem_toArray, List.getElem_cons_succ, List.getElem_cons_zero, List.setIfInBounds_toArray, List.set_cons_zero, List.set_cons_succ])
          refine wpAnyH_take (i := 21) (v := .bool false) rfl (by kernel_rfl) (by kernel_rfl) (by kernel_rfl) (fun _ _ _ h => h) (Or.inl ⟨by kernel_rfl, fun _ hS => by kernel_rfl⟩) hHeld ?_
          (try simp only [Act.put, List.getElem_toArray, List.getElem_cons_succ, List.getElem_cons_zero, List.setIfInBounds_toArray, List.set_cons_zero, List.set_cons_succ])
          obtain ⟨wb, hwb⟩ : ∃ x, x = wa := ⟨_, rfl⟩
          rw [← hwb] at hHeld ⊢
          clear hwb
          have HE := Lib.hid hHeld
          refine wpAnyH_done (by kernel_rfl) ?_ _
          clear hHeld
          go_wp2
          go_roundw
          case measure => simp [intOf]; omega
          case rel =>
            refine ⟨i + 1, by omega, by go_num, A5', c5', Lib.hid ⟨HB12.out.trans (HE.out.mono (by have := HB12.out.size; omega)), ?_, ?_⟩⟩
            · rw [HLC.out, ← HCX.out]; exact (HE.out.block g13 (Array.getElem?_eq_some_iff.1 HK13.out).1).trans HK13.out
            · rw [HLC.out]
              have h := HX.out.2.2.2.2.2.2.1
              exact ((h.below (HB1112.out.trans (HE.out.mono HB1112.out.size))).more (by have := HB1112.out.size; have := HE.out.size; omega))
      · have hie : ns = i := by omega
        subst hie
        have hiI : ¬ ((ns : Int) < (ns : Int)) := by omega
        have htk : S.take ns = S := List.take_of_length_le (by rw [← HN.out.2.1]; exact Nat.le_refl _)
        obtain ⟨CY, hCY⟩ : ∃ C, C = contA (lastC S) A' c' := ⟨_, rfl⟩
        have hR2 := hR.out
        rw [htk, ← hCY] at hR2
        have hsl : SlAt wr wr.heap.size A' c' (lastC S).t.l := hR2.2.2
        have hr8 : wr.rangeAt g8 0 CA7.toList := row_range_ ((H9R.out.block g8 (Array.getElem?_eq_some_iff.1 HQ.out.2.2.2.2.2).1).trans HQ.out.2.2.2.2.2) _ _ (fun j v hv => by rw [Nat.zero_add, ← Array.getElem?_toList]; exact hv)
        have hr13 : wr.rangeAt g13 0 CY.toList := row_range_ hR2.2.1 _ _ (fun j v hv => by rw [Nat.zero_add, ← Array.getElem?_toList]; exact hv)
        have hsm : Calls Tryz.prog 18 #[.agg CA7, .agg CY] wr fun e w' => e = .returned (.bool true) ∧ Below wr.heap.size wr w' := by
          have h := rcsame_c (lastC S) (lastC S) wr wr.heap.size A7 A' c7 c' HLD.out ((HQ.out.2.2.2.2.1.below H9R.out).more H9R.out.size) HLD.out hsl (Nat.le_refl _)
          rw [sameC_self] at h
          unfold contV at h
          rw [← HCA7.out.1, ← hCY] at h
          exact h
        have hiy := HIC.out (lastC S) A' c'
        rw [← hCY] at hiy
        have HSM := Lib.hid hsm
        have HR8 := Lib.hid (And.intro hr8 (And.intro hr13 hiy))
        have HFW := Lib.hid (H09.out.trans (H9R.out.mono H09.out.size))
        clear htk hCY hR2 hsl hr8 hr13 hsm hiy hgs hg9
        go_wp2_with (first | (refine wpList_mid rfl 37 _ rfl g8 0 rfl CA7.toList _ HR8.out.1 undC rfl HCA7.out.2.2.1 ?_; simp only [Array.toArray_toList]) | (refine wpList_mid rfl 37 _ rfl g13 0 rfl CY.toList _ HR8.out.2.1 undC rfl HR8.out.2.2.2.1 ?_; simp only [Array.toArray_toList]) | (go_at_call 18; refine HSM.out.mono ?_; rintro e w20 ⟨rfl, hb20⟩; have H20 := Lib.hid hb20; clear hb20) | fail)
        first | go_ret | go_ret2 | (refine bodyPost_ret (results_tmp rfl _ _ _) rfl ?_)
        exact ⟨by kernel_rfl, HFW.out.trans (H20.out.mono HFW.out.size)⟩
end Go.Proofs.YtbiacjkkgddclaaGreat
namespace Go.Proofs.YtbiacjkkgddclaaGreat
set_option linter.unusedSimpArgs false
set_option linter.unusedVariables false
open Go Go.RowKit Go.Shelf Go.Maps

theorem filt_ins {M : List Wr} (ho : OrdW M) {xs : List Ik} {m : Wr} (hm : m ∈ M) (hx : m.id ∉ xs) : insW m (M.filter fun e => decide (e.id ∈ xs)) = M.filter fun e => decide (e.id ∈ xs ++ [m.id]) := by
  have hno : m.id ∉ idsW (M.filter fun e => decide (e.id ∈ xs)) := fun h => by
    obtain ⟨y, hy, e⟩ := List.mem_map.1 h
    have := (List.mem_filter.1 hy).2
    rw [decide_eq_true_eq, e] at this
    exact hx this
  refine ordW_ext (insW_order (List.Pairwise.filter _ ho) hno) (List.Pairwise.filter _ ho) (fun y => ?_)
  rw [insW_mem, List.mem_filter, List.mem_filter]
  simp only [decide_eq_true_eq, List.mem_append, List.mem_singleton]
  constructor
  · rintro (rfl | ⟨h1, h2⟩)
    · exact ⟨hm, .inr rfl⟩
    · exact ⟨h1, .inl h2⟩
  · rintro ⟨h1, h2 | h2⟩
    · exact .inr ⟨h1, h2⟩
    · exact .inl (ho.inj h1 hm h2)
/-- where the loop of Clone stands. -/
structure ClW (w : World) (b r nn : Nat) (D : DataW Value) (M : List Wr) (pc : Nat) (xs : List Ik) (left : Lit → Bool) (cnt : Nat) (wr : World) : Prop where
  bel : Below w.heap.size w wr
  rg : wr.ranges Tryz.prog 28 heldW b r nn D left cnt
  met : MetI D left xs
  len : xs.length + cnt ≤ Maps.size D
  reg : RgM wr pc xs.length (M.filter fun m => decide (m.id ∈ xs)) (fun k => w.heap.size ≤ k ∧ k ≠ r ∧ k < wr.heap.size)
  ri : r < wr.heap.size ∧ w.heap.size ≤ r
theorem hd3 {w w2 W3 wr : World} {r : Nat} (hg2 : wr.grownBy w2 (some r)) (hb3 : Below w2.heap.size w2 W3) (hs2 : w2.heap.size = wr.heap.size) : KeepZ (fun k => k = r) wr W3 :=
  ⟨hb3.os.trans hg2.os, hb3.tape.trans hg2.tape, hb3.output.trans hg2.output, by have := hb3.size; omega, fun k hk hne => (hb3.block k (by omega)).trans (hg2.block k hk (fun e => hne (Option.some.inj e)))⟩
/-- one more is copied. -/
theorem ClW.step {w : World} {b r nn : Nat} {D : DataW Value} {M : List Wr} {pc g n' : Nat} {T : Nat → Prop} {xs : List Ik} {left : Lit → Bool} {cnt cnt2 : Nat} {Dc : DataW Value} {wr w2 W3 x0 w4 w5 : World} {m : Wr} {A2 A3 : Option Addr} {c2 c3 : Nat}
    (h : ClW w b r nn D M pc xs left cnt wr) (ho : OrdW M) (hx : m ∈ M) (hf : m.fit) {y : DataW Value} (hlk : left m.id.key = true) (hat : ∀ zd, D.atKey m.id.key zd = y) (hn' : n' = xs.length)
    (hb : b < w.heap.size)
    (hrg2 : w2.ranges Tryz.prog 28 heldW b r nn D (fun z => left z && !z.sameKey m.id.key) cnt2) (hlt : cnt2 < cnt) (hg2 : wr.grownBy w2 (some r)) (hs2 : w2.heap.size = wr.heap.size) (hb3 : Below w2.heap.size w2 W3)
    (hreg : RgAt W3 pc (some g) n' Dc ∧ RepW W3 T Dc (M.filter fun m => decide (m.id ∈ xs)) ∧ (w.heap.size ≤ pc ∧ pc ≠ r ∧ pc < wr.heap.size) ∧ (w.heap.size ≤ g ∧ g ≠ r ∧ g < wr.heap.size) ∧ (∀ k, T k → (w.heap.size ≤ k ∧ k ≠ r ∧ k < wr.heap.size) ∧ k ≠ pc ∧ k ≠ g ∧ k < W3.heap.size)) (hpg : pc ≠ g)
    (hx0 : Below W3.heap.size W3 x0) (hb4 : Below x0.heap.size x0 w4)
    (hs4 : SlG w4 (fun b _ => x0.heap.size ≤ b ∧ b < w4.heap.size) A2 c2 m.x.t.l) (hok : w4.ownsRow x0.heap.size 28 2 (.slice A3 m.o.length c3) m.o.length (ikCells m.o)) (hg5 : w4.grownBy w5 (some g)) (ho5 : w5.ownsMap Tryz.prog 28 heldW g (n' + 1) (Dc.put m.id.key (.held (.agg (wrA m A2 c2 A3 c3))))) :
    ClW w b r nn D M pc (xs ++ [m.id]) (fun z => left z && !z.sameKey m.id.key) cnt2 w5 := by
  have e1 := h.bel.size
  have e2 := hb3.size
  have e3 := hx0.size
  have e4 := hb4.size
  have e5 := hg5.size
  obtain ⟨hat3, hrep, hzp, hzg, hT⟩ := hreg
  have hri := h.ri
  have hbk : ∀ k, k < wr.heap.size → k ≠ r → k ≠ g → w5.heap[k]? = wr.heap[k]? := fun k h1 h2 h3 =>
    (hg5.block k (by omega) (fun e => h3 (Option.some.inj e))).trans ((hb4.block k (by omega)).trans ((hx0.block k (by omega)).trans ((hb3.block k (by omega)).trans (hg2.block k h1 (fun e => h2 (Option.some.inj e))))))
  have hb53 : ∀ k, k < W3.heap.size → k ≠ g → w5.heap[k]? = W3.heap[k]? := fun k h1 h3 => (hg5.block k (by omega) (fun e => h3 (Option.some.inj e))).trans ((hb4.block k (by omega)).trans (hx0.block k h1))
  have hr5 : w5.heap[r]? = w2.heap[r]? := (hb53 r (by omega) (fun e => hzg.2.1 e.symm)).trans (hb3.block r (by omega))
  have hb5 : w5.heap[b]? = w2.heap[b]? := (hb53 b (by omega) (by omega)).trans (hb3.block b (by omega))
  have hbel : Below w.heap.size wr w5 := ⟨hg5.os.trans (hb4.os.trans (hx0.os.trans (hb3.os.trans hg2.os))), hg5.tape.trans (hb4.tape.trans (hx0.tape.trans (hb3.tape.trans hg2.tape))), hg5.output.trans (hb4.output.trans (hx0.output.trans (hb3.output.trans hg2.output))), by omega, fun k hk => hbk k (by omega) (by omega) (by omega)⟩
  have hnx : m.id ∉ xs := fun hm => by have := ((h.met.2.2 m.id hf.id).1 hm).2; rw [hlk] at this; cases this
  refine ⟨h.bel.trans hbel, ranges_same hrg2 hb5 hr5, h.met.step hf.id hlk hat, by have := h.len; rw [List.length_append, List.length_singleton]; omega, ?_, by omega, hri.2⟩
  refine ⟨g, _, fun k => T k ∨ (x0.heap.size ≤ k ∧ k < w4.heap.size), ⟨(hb53 pc (by omega) hpg).trans hat3.1, by rw [List.length_append, List.length_singleton, ← hn']; exact ho5⟩, ?_, ⟨hzp.1, hzp.2.1, by omega⟩, ⟨hzg.1, hzg.2.1, by omega⟩, fun k hk => ?_⟩
  · rw [← filt_ins ho hx hnx]
    have hng : ∀ k, x0.heap.size ≤ k → k < w4.heap.size → w5.heap[k]? = w4.heap[k]? := fun k h1 h2 => hg5.block k h2 (fun e => by have := Option.some.inj e; omega)
    refine hrep.put (Z' := fun k => T k ∨ (x0.heap.size ≤ k ∧ k < w4.heap.size)) (fun b h => .inl h) (fun k hk => hb53 k (hT k hk).2.2.2 (hT k hk).2.2.1) hf ?_ ?_ ?_
    · intro hm
      obtain ⟨y, hy, e⟩ := List.mem_map.1 hm
      have := (List.mem_filter.1 hy).2
      rw [decide_eq_true_eq, e] at this
      exact hnx this
    · exact hs4.keep (fun b o h => .inr h) (fun b o h j _ => World.cell?_of_block (a := ⟨b, o + j, none⟩) (hng b h.1 h.2))
    · exact (own_ikG hok rfl).keep (fun k hk => ⟨hng k hk.1 hk.2, .inr hk⟩)
  · rcases hk with hk | hk
    · obtain ⟨⟨q1, q2, q3⟩, q4, q5, q6⟩ := hT k hk
      exact ⟨⟨q1, q2, by omega⟩, q4, q5, by omega⟩
    · exact ⟨⟨by omega, by omega, by omega⟩, by omega, by omega, by omega⟩
set_option maxRecDepth 100000 in
set_option maxHeartbeats 16000000 in
theorem clone37_c {w : World} {p n : Nat} {M : List Wr} {Z : Nat → Prop} (h : RgM w p n M Z) (hM : M.length ≤ 1000) :
    Calls Tryz.prog 21 #[.pointer (some ⟨p, 0, none⟩)] w fun e w' => ∃ pc, e = .returned (.pointer (some ⟨pc, 0, none⟩)) ∧ RgM w' pc M.length M (fun b => w.heap.size ≤ b ∧ b < w'.heap.size) ∧ Below w.heap.size w w' := by
  obtain ⟨b, D, T0, hst, hrep, -, -, hT0⟩ := h
  obtain ⟨h0, hh0⟩ : ∃ h, h = w.heap.size := ⟨_, rfl⟩
  have hpl : p < h0 := by rw [hh0]; exact (Array.getElem?_eq_some_iff.1 hst.1).1
  have hbl : b < h0 := by rw [hh0]; obtain ⟨es, clock, e1, -⟩ := hst.2; exact (Array.getElem?_eq_some_iff.1 e1).1
  have HNEW := Lib.hid (new_c w)
  have HREP := Lib.hid (And.intro hrep (And.intro (show ∀ k, T0 k → k < w.heap.size from fun k hk => (hT0 k hk).2.2.2) (And.intro hM (And.intro hbl hpl))))
  have HST0 := Lib.hid hst
  have HH := Lib.hid hh0
  clear hrep hT0 hM hpl hbl hst hh0
  go_enter Tryz.func21, Tryz.ntmps21
  go_upto_region 4 with (go_at_call 12; refine HNEW.out.mono ?_; rintro e W1 ⟨pc, rfl, hr1, hb1⟩; have H1 := Lib.hid (And.intro hr1 hb1); clear hr1 hb1)
  have c1 : W1.cell? ⟨p, 0, none⟩ = some (.map (some b)) := cell_of_row _ _ 0 _ _ _ ((H1.out.2.block p (by have := HREP.out.2.2.2.2; have := HH.out; omega)).trans HST0.out.1)
  have how : W1.ownsMap Tryz.prog 28 heldW b n D := own_map_below HST0.out.2 H1.out.2
  go_wp2_with (first | (at_range; refine wpList_range_own _ rfl _ 64 rfl 28 49 ik_law undMw _ b n _ rfl how ?_; intro w0 hrg0 hg0 hs0) | fail)
  try go_frame
  obtain ⟨r, hr⟩ : ∃ r, r = W1.heap.size := ⟨_, rfl⟩
  have HR0 : Hid (ClW w b r n D M pc [] (Maps.has D) (Maps.size D) w0) := Lib.hid (by
    have hb0 : Below W1.heap.size W1 w0 := ⟨hg0.os, hg0.tape, hg0.output, hg0.size, fun k hk => hg0.block k hk (by simp)⟩
    have e1 := H1.out.2.size
    rw [hr]
    obtain ⟨o, ho, -⟩ := ranges_iter hrg0
    refine ⟨H1.out.2.trans (hb0.mono e1), hrg0, MetI.start D, by simp, ?_, (Array.getElem?_eq_some_iff.1 ho).1, e1⟩
    rw [show (M.filter fun m => decide (m.id ∈ ([] : List Ik))) = [] by simp]
    exact (H1.out.1.below hb0).zone (fun k hk => ⟨hk.1, by omega, by have := hb0.size; omega⟩))
  have HRE := Lib.hid hr
  rw [← hr] at hrg0
  clear hrg0 hg0 hs0 how c1 hr
  go_loopw [4] (fun _ wr => ∃ (xs : List Ik) (left : Lit → Bool) (cnt : Nat), Hid (ClW w b r n D M pc xs left cnt wr)) (fun _ wr => wr.rangeLeft b r)
  case atStart => exact ⟨_, _, _, HR0⟩
  case round =>
    obtain ⟨xs, left, cnt, hR⟩ := hrel
    have hrg := hR.out.rg
    rw [HRE.out] at hrg
    go_wp2_with (first | (at_next; refine wpList_next_ranges _ rfl _ rfl 28 ik_law heldW Ik.val id (fun key kl hk => by obtain ⟨x, hx, _⟩ := ik_key_inv hk; exact ⟨x, hx⟩) (fun v _ _ => ⟨v, rfl⟩) b W1.heap.size n _ _ _ rfl hrg ?_ ?_) | fail)
    · intro hc0 hl0
      have HKL := Lib.hid (hR.out.met.done hl0)
      clear hrg hc0 hl0
      go_wp2
      first | go_ret | go_ret2 | (refine bodyPost_ret (results_tmp rfl _ _ _) rfl ?_)
      have hfl : (M.filter fun m => decide (m.id ∈ xs)) = M := by
        refine List.filter_eq_self.2 (fun m hm => ?_)
        have hk := HREP.out.1.ok m hm
        have : m.id ∈ xs := (HKL.out.2.2 m.id hk.id).2 (by rw [HREP.out.1.has m.id hk.id]; exact decide_eq_true (List.mem_map.2 ⟨m, hm, rfl⟩))
        simpa using this
      have hreg := hR.out.reg
      rw [hfl] at hreg
      have hlen : xs.length ≤ M.length := by have := hR.out.len; have := HREP.out.1.size; omega
      exact ⟨pc, rfl, (hreg.zone (fun k hk => ⟨hk.1, hk.2.2⟩)).more hlen, hR.out.bel⟩
    · intro a0 c kl yd yp w2 cnt2 hkey hlk hv hat hrg2 hlt hg2 hsz2 hen
      obtain ⟨a, ex, hok, rfl⟩ := ik_key_inv hkey
      obtain rfl : a0 = a := Ik.val_inj ex
      obtain ⟨m, hxm, hmid⟩ : ∃ m ∈ M, m.id = a0 := by
        have h1 := Maps.has_true_of_atKey hat
        rw [HREP.out.1.has a0 hok, decide_eq_true_eq] at h1
        exact List.mem_map.1 h1
      subst hmid
      obtain ⟨A, cc, Ao, co, hax, hsl, hio⟩ := HREP.out.1.val m hxm
      obtain ⟨cs, rfl, -, -, hyd⟩ := heldW_inv hv
      obtain rfl : cs = wrA m A cc Ao co := by
        have h1 := hat (.held (.agg (wrA zWr none 0 none 0)))
        rw [hax, hyd] at h1
        simp only [DataW.held.injEq, Value.agg.injEq] at h1
        exact h1.symm
      have hfit := HREP.out.1.ok m hxm
      have hslw : SlAt w w.heap.size A cc m.x.t.l := hsl.at_ (fun k _ hk => HREP.out.2.1 k hk)
      have hiow : IkG w (fun k => k < w.heap.size) Ao co m.o := hio.mono (fun k hk => HREP.out.2.1 k hk)
      obtain ⟨z, hz⟩ : ∃ z, z = m.id := ⟨_, rfl⟩
      obtain ⟨CA, hCA⟩ : ∃ C, C = wrA m A cc Ao co := ⟨_, rfl⟩
      obtain ⟨ZC, hZC⟩ : ∃ C, C = wrA zWr none 0 none 0 := ⟨_, rfl⟩
      have hen' : (Instr.entry (.pointer (some ⟨W1.heap.size, 0, none⟩))).run Tryz.prog w2 = .ok (.tuple #[.agg #[.int .i64 z.a, .int .i64 z.n], .agg CA]) w2 := by rw [hCA, hz]; exact hen
      obtain ⟨ra, hra⟩ : ∃ x, x = z.a := ⟨_, rfl⟩
      obtain ⟨rn, hrn⟩ : ∃ x, x = z.n := ⟨_, rfl⟩
      rw [← hra, ← hrn] at hen'
      have hzz : m.id = ⟨ra, rn⟩ := by rw [hra, hrn, hz]
      have hk1 : ((w2.alloc (.cells #[.int .i64 0, .int .i64 0] 28)).alloc (.cells ZC 49)).heap[w2.heap.size]? = some (.cells #[.int .i64 0, .int .i64 0] 28) := (heapOld _ _ _ (by simp)).trans (heap_alloc_new _ _)
      have hk2 : (((w2.alloc (.cells #[.int .i64 0, .int .i64 0] 28)).alloc (.cells ZC 49)).setRow w2.heap.size #[.int .i64 ra, .int .i64 rn]).heap[w2.heap.size + 1]? = some (.cells ZC 49) := by
        rw [setRow_other _ _ _ _ (by omega)]
        have := heap_alloc_new (w2.alloc (.cells #[.int .i64 0, .int .i64 0] 28)) (.cells ZC 49)
        rwa [World.size_alloc] at this
      obtain ⟨W3, hW3⟩ : ∃ W3, W3 = (((w2.alloc (.cells #[.int .i64 0, .int .i64 0] 28)).alloc (.cells ZC 49)).setRow w2.heap.size #[.int .i64 ra, .int .i64 rn]).setRow (w2.heap.size + 1) CA := ⟨_, rfl⟩
      have hb3 : Below w2.heap.size w2 W3 := by rw [hW3]; exact below_row (below_row (((Below.refl _ _).alloc (Nat.le_refl _) _).alloc (by simp) _) (Nat.le_refl _) _) (by omega) _
      have hkc : W3.heap[w2.heap.size]? = some (.cells #[.int .i64 ra, .int .i64 rn] 28) := by rw [hW3, setRow_other _ _ _ _ (by omega)]; exact setRow_heap _ _ _ _ _ _ hk1
      have hkx : W3.heap[w2.heap.size + 1]? = some (.cells CA 49) := by rw [hW3]; exact setRow_heap _ _ _ _ _ _ hk2
      have hsz3 : W3.heap.size = w2.heap.size + 2 := by rw [hW3]; simp
      have hinC : (Tryz.prog.info? 49).map (·.size) = some CA.size ∧ ZC.size = CA.size ∧ CA.all (·.oneCell') = true ∧ (Tryz.prog.info? 49).map (·.size) = some CA.toList.length := by rw [hCA, hZC]; exact ⟨(wr_idx _ _ _ _ _).1, rfl, wrA_one _ _ _ _ _, (wr_idx _ _ _ _ _).2⟩
      have hkeep := hd3 (w := w) hg2 hb3 hsz2
      have hreg3 := hR.out.reg.keep hkeep (fun k hk e => hk.2.1 (by rw [HRE.out]; exact e))
      obtain ⟨g, Dc, T, hat3, hrep3, hzp, hzg, hT⟩ := hreg3
      have hpg : pc ≠ g := fun e => by
        obtain ⟨es, clock, e1, -⟩ := hat3.2
        rw [← e, hat3.1] at e1
        cases e1
      have hwz : Below w.heap.size w W3 := by
        have hg2b : Below w.heap.size wr w2 := ⟨hg2.os, hg2.tape, hg2.output, hg2.size, fun k hk => hg2.block k (by have := hR.out.bel.size; omega) (fun e => by have := Option.some.inj e; have := H1.out.2.size; omega)⟩
        exact (hR.out.bel.trans hg2b).trans (hb3.mono (by have := hR.out.bel.size; have := hg2.size; omega))
      have hcl : Calls Tryz.prog 31 #[.agg CA] W3.drew (CloneW W3.drew m) := by
        rw [hCA]
        have hd : Below w.heap.size w W3.drew := hwz.drew
        exact rclone_c m W3.drew A cc Ao co hfit.d ((hslw.below hd).more hd.size) hfit.size ((hiow.below hd).mono (fun k hk => Nat.lt_of_lt_of_le hk hd.size)) (by have := hfit.few; omega)
      obtain ⟨n', hn'⟩ : ∃ n, n = xs.length := ⟨_, rfl⟩
      rw [← hn'] at hat3
      have hnm1 : n' < maxLen := by unfold maxLen; have := hR.out.len; have := HREP.out.1.size; have := HREP.out.2.2.1; omega
      have hszw : w2.heap.size = wr.heap.size := hsz2
      have hS3 : ∀ wx, KeepZ (fun k => k = g) W3 wx → wx.cell? ⟨pc, 0, none⟩ = some (.map (some g)) ∧ wx.rangeAt w2.heap.size 0 [.int .i64 ra, .int .i64 rn] ∧ wx.rangeAt (w2.heap.size + 1) 0 CA.toList := fun wx hx =>
        ⟨cell_of_row _ _ 0 _ _ _ ((hx.block pc (by have := hzp.2.2; omega) hpg).trans hat3.1), ik_range ((hx.block _ (by omega) (by have := hzg.2.2; omega)).trans hkc), row_range_ ((hx.block _ (by omega) (by have := hzg.2.2; omega)).trans hkx) _ _ (fun j v hv => by rw [Nat.zero_add, ← Array.getElem?_toList]; exact hv)⟩
      have hstep := fun (x0 w4 w5 : World) (A2 : Option Addr) (c2 : Nat) (A3 : Option Addr) (c3 : Nat) h1 h2 h3 h4 h5 h6 => ClW.step (r := r) (x0 := x0) (w4 := w4) (w5 := w5) (A2 := A2) (c2 := c2) (A3 := A3) (c3 := c3) hR.out HREP.out.1.order hxm hfit hlk hat hn' (by have := HREP.out.2.2.2.1; have := HH.out; omega) (by rw [HRE.out]; exact hrg2) hlt (by rw [HRE.out]; exact hg2) hsz2 hb3 ⟨hat3, hrep3, hzp, hzg, hT⟩ hpg h1 h2 h3 h4 h5 h6
      rw [hzz] at hstep
      have HNM := Lib.hid hnm1
      have HSTEP := Lib.hid hstep
      have HCL0 := Lib.hid hcl
      have HS3 := Lib.hid hS3
      have HO3 := Lib.hid hat3.2
      have HINC := Lib.hid hinC
      have HZC := Lib.hid hZC
      have HW3 := Lib.hid hW3
      have HK1 := Lib.hid hk1
      have HK2 := Lib.hid hk2
      have HOK := Lib.hid (show (⟨ra, rn⟩ : Ik).ok from by rw [← hzz]; exact hok)
      have HME := Lib.hid (show ∀ w5 : World, w5.ranges Tryz.prog 28 heldW b r n D (fun z => left z && !z.sameKey (Ik.key ⟨ra, rn⟩)) cnt2 → w5.rangeLeft b r < wr.rangeLeft b r from fun w5 h => by rw [h.left_eq, hR.out.rg.left_eq]; exact hlt)
      clear hstep hcl hS3 hat3 hrep3 hzp hzg hT hpg hwz hkeep hinC hCA hZC hW3 hk1 hk2 hb3 hkc hkx hsz3 hszw hslw hiow hfit hax hsl hio hyd hv hen hkey hlk hat hrg2 hlt hg2 hsz2 ex hok hxm hrg hra hrn hzz hnm1 hn' hz
      dsimp only [Ik.val]
      go_wp2_with (first | (refine wpList_wrVar rfl rfl (w2.heap.size + 1) (by simp) ?_; rw [← HZC.out]) | (refine wpList_store_row rfl 28 _ _ rfl w2.heap.size #[.int .i64 ra, .int .i64 rn] rfl rfl 28 #[.int .i64 0, .int .i64 0] HK1.out (by kernel_rfl) rfl (by kernel_rfl) ?_) | (refine wpList_store_row rfl 49 _ _ rfl (w2.heap.size + 1) CA rfl rfl 49 ZC HK2.out HINC.out.1 HINC.out.2.1 HINC.out.2.2.1 ?_) | fail)
      change Code.wp _ _ _ _ ((((w2.alloc (.cells #[.int .i64 0, .int .i64 0] 28)).alloc (.cells ZC 49)).setRow w2.heap.size #[.int .i64 ra, .int .i64 rn]).setRow (w2.heap.size + 1) CA)
      rw [← HW3.out]
      obtain ⟨q, hq⟩ : ∃ q, q = w2.heap.size := ⟨_, rfl⟩
      rw [← hq] at HS3 ⊢
      clear hq
      refine wp_region_held_drew (S := fun wx => KeepZ (fun k => k = g) W3 wx) (by kernel_rfl) (KeepZ.of (Below.refl _ _).drew) (fun hHeld => ?_)
      obtain ⟨x0, hx0⟩ : ∃ x, x = W3.drew := ⟨_, rfl⟩
      have HX0 := Lib.hid (show Below W3.heap.size W3 x0 ∧ x0.ownsMap Tryz.prog 28 heldW g n' Dc from by rw [hx0]; exact ⟨(Below.refl _ W3).drew, own_map_below HO3.out (Below.refl _ W3).drew⟩)
      have HCL := Lib.hid (show Calls Tryz.prog 31 #[.agg CA] x0 (CloneW x0 m) from by rw [hx0]; exact HCL0.out)
      rw [← hx0] at hHeld ⊢
      clear hx0 HCL0
      refine wpAnyH_take (i := 0) (v := .pointer (some ⟨pc, 0, none⟩)) rfl (by kernel_rfl) (by kernel_rfl) (by kernel_rfl) (fun _ _ _ h => h) (Or.inl ⟨by kernel_rfl, fun _ hS => by kernel_rfl⟩) hHeld ?_
      (try simp only [Act.put, List.getElem_toArray, List.getElem_cons_succ, List.getElem_cons_zero, List.setIfInBounds_toArray, List.set_cons_zero, List.set_cons_succ])
      refine wpAnyH_take (i := 1) (v := .pointer (some ⟨pc, 0, none⟩)) rfl (by kernel_rfl) (by kernel_rfl) (by kernel_rfl) (fun _ _ _ h => h) (Or.inl ⟨by kernel_rfl, fun _ hS => by kernel_rfl⟩) hHeld ?_
      (try simp only [Act.put, List.getElem_toArray, List.getElem_cons_succ, List.getElem_cons_zero, List.setIfInBounds_toArray, List.set_cons_zero, List.set_cons_succ])
      refine wpAnyH_take (i := 2) (v := .pointer (some ⟨pc, 0, none⟩)) rfl (by kernel_rfl) (by kernel_rfl) (by kernel_rfl) (fun _ _ _ h => h) (Or.inl ⟨by kernel_rfl, fun _ hS => by kernel_rfl⟩) hHeld ?_
      (try simp only [Act.put, List.getElem_toArray, List.getElem_cons_succ, List.getElem_cons_zero, List.setIfInBounds_toArray, List.set_cons_zero, List.set_cons_succ])
      refine wpAnyH_take (i := 3) (v := .map (some g)) rfl (by kernel_rfl) (by kernel_rfl) (by kernel_rfl) (fun _ _ _ h => h) (Or.inl ⟨by kernel_rfl, fun _ hS => ld_mw _ rfl ⟨pc, 0, none⟩ rfl _ (HS3.out _ hS).1⟩) hHeld ?_
      (try simp only [Act.put, List.getElem_toArray, List.getElem_cons_succ, List.getElem_cons_zero, List.setIfInBounds_toArray, List.set_cons_zero, List.set_cons_succ])
      refine wpAnyH_take (i := 4) (v := .agg #[.int .i64 ra, .int .i64 rn]) rfl (by kernel_rfl) (by kernel_rfl) (by kernel_rfl) (fun _ _ _ h => h) (yieldsIf_load_mid (by kernel_rfl) 28 _ rfl q 0 rfl [.int .i64 ra, .int .i64 rn] _ (fun _ hS => (HS3.out _ hS).2.1) ikUnd rfl ikInfo) hHeld ?_
      (try simp only [Act.put, List.getElem_toArray, List.getElem_cons_succ, List.getElem_cons_zero, List.setIfInBounds_toArray, List.set_cons_zero, List.set_cons_succ])
      refine wpAnyH_take (i := 5) (v := .agg CA.toList.toArray) rfl (by kernel_rfl) (by kernel_rfl) (by kernel_rfl) (fun _ _ _ h => h) (yieldsIf_load_mid (by kernel_rfl) 49 _ rfl (q + 1) 0 rfl CA.toList _ (fun _ hS => (HS3.out _ hS).2.2) undWr rfl HINC.out.2.2.2) hHeld ?_
      (try simp only [Act.put, List.getElem_toArray, List.getElem_cons_succ, List.getElem_cons_zero, List.setIfInBounds_toArray, List.set_cons_zero, List.set_cons_succ])
      simp only [Array.toArray_toList]
      refine wpAnyH_ready (rs := [6]) (by kernel_rfl) (by simp) ?_
      refine AllReadyH.cons rfl (fun K hK => ?_) AllReadyH.nil
      go_simp
      refine HCL.out.mono ?_
      rintro e w4 ⟨A2, c2, A3, c3, rfl, hsl4, hok4, hb4⟩
      have HSL4 := Lib.hid (And.intro hsl4 hok4)
      clear hsl4 hok4
      try go_simp
      have hH4 : KeepZ (fun k => k = g) W3 w4 := hHeld.trans (KeepZ.of hb4)
      have HO4 := Lib.hid (own_map_below HX0.out.2 hb4)
      have HB4 := Lib.hid hb4
      refine hK.out _ _ hH4 (fun hHeld4 => ?_)
      clear hK K hHeld hH4 hb4
      (try simp only [Act.put, List.getElem_toArray, List.getElem_cons_succ, List.getElem_cons_zero, List.setIfInBounds_toArray, List.set_cons_zero, List.set_cons_succ])
      refine wpAnyH_putW (i := 7) (by kernel_rfl) rfl rfl _ _ _ rfl g n' Dc rfl ⟨ra, rn⟩ HOK.out rfl m A2 c2 A3 c3 rfl HNM.out HO4.out (fun w' hg => hHeld4.trans ⟨hg.os, hg.tape, hg.output, hg.size, fun k hk hne => hg.block k hk (fun e => hne (Option.some.inj e))⟩) (fun w5 ho5 hg5 hHeld5 => ?_)
      (try simp only [Act.put, List.getElem_toArray, List.getElem_cons_succ, List.getElem_cons_zero, List.setIfInBounds_toArray, List.set_cons_zero, List.set_cons_succ])
      have HCR := Lib.hid (HSTEP.out x0 w4 w5 A2 c2 A3 c3 HX0.out.1 HB4.out HSL4.out.1 HSL4.out.2 hg5 ho5)
      clear ho5 hg5 hHeld4
      refine wpAnyH_done (by kernel_rfl) ?_ _
      clear hHeld5
      go_wp2
      go_roundw
      case measure => exact HME.out _ HCR.out.rg
      case rel => exact ⟨_, _, _, HCR⟩
end Go.Proofs.YtbiacjkkgddclaaGreat
namespace Go.Proofs.YtbiacjkkgddclaaGreat
set_option linter.unusedSimpArgs false
set_option linter.unusedVariables false
open Go Go.RowKit Go.Shelf Go.Maps

def PgS (w : World) (z0 p n : Nat) (Mg Ma : List Wr) (A2 : Option Addr) (c2 : Nat) (Mh : List Wr) (Ah : Option Addr) (ch pk : Nat) (wr : World) : Prop :=
  ∃ Zg Zk : Nat → Prop, ∃ nk, Below w.heap.size w wr ∧ w.heap.size ≤ z0 ∧ z0 ≤ wr.heap.size ∧ RgM wr p n Mg Zg ∧ RgM wr pk nk Mh Zk ∧ RowW wr (fun b => z0 ≤ b ∧ b < wr.heap.size ∧ ¬ Zg b) (fun k => k < w.heap.size) A2 c2 Ma ∧ RowW wr (fun b => z0 ≤ b ∧ b < wr.heap.size ∧ ¬ Zg b) (fun k => k < w.heap.size) Ah ch Mh ∧ (∀ b, Zg b → z0 ≤ b ∧ b < wr.heap.size) ∧ (∀ b, Zk b → z0 ≤ b ∧ b < wr.heap.size ∧ ¬ Zg b)
theorem PgS.bel {w wr : World} {z0 p n : Nat} {Mg Ma : List Wr} {A2 : Option Addr} {c2 : Nat} {Mh : List Wr} {Ah : Option Addr} {ch pk : Nat} (h : PgS w z0 p n Mg Ma A2 c2 Mh Ah ch pk wr) : Below w.heap.size w wr := by
  obtain ⟨-, -, -, h, -⟩ := h
  exact h
theorem PgS.below {w wr wz : World} {z0 p n : Nat} {Mg Ma : List Wr} {A2 : Option Addr} {c2 : Nat} {Mh : List Wr} {Ah : Option Addr} {ch pk : Nat} (h : PgS w z0 p n Mg Ma A2 c2 Mh Ah ch pk wr) (hb : Below wr.heap.size wr wz) : PgS w z0 p n Mg Ma A2 c2 Mh Ah ch pk wz := by
  obtain ⟨Zg, Zk, nk, h1, h2, h3, h4, h5, h6, h7, h8, h9⟩ := h
  have hs := hb.size
  have hz : ∀ k, (z0 ≤ k ∧ k < wr.heap.size ∧ ¬ Zg k) → wz.heap[k]? = wr.heap[k]? ∧ (z0 ≤ k ∧ k < wz.heap.size ∧ ¬ Zg k) := fun k hk => ⟨hb.block k hk.2.1, hk.1, by omega, hk.2.2⟩
  have ht : ∀ k, k < w.heap.size → wz.heap[k]? = wr.heap[k]? ∧ k < w.heap.size := fun k hk => ⟨hb.block k (by omega), hk⟩
  exact ⟨Zg, Zk, nk, h1.trans (hb.mono h1.size), h2, by omega, h4.below hb, h5.below hb, h6.keep hz ht, h7.keep hz ht, fun b hb' => ⟨(h8 b hb').1, by have := (h8 b hb').2; omega⟩, fun b hb' => ⟨(h9 b hb').1, by have := (h9 b hb').2.1; omega, (h9 b hb').2.2⟩⟩
theorem PgS.rput {w wr : World} {z0 p n : Nat} {Mg Ma : List Wr} {A2 : Option Addr} {c2 : Nat} {Mh : List Wr} {Ah : Option Addr} {ch pk : Nat} (h : PgS w z0 p n Mg Ma A2 c2 Mh Ah ch pk wr) (hM : Ma.length ≤ 1000) (m : Wr) (A : Option Addr) (c : Nat) (Ao : Option Addr) (co : Nat) (hm : WrIn wr w.heap.size m A c Ao co) :
    Calls Tryz.prog 19 #[.slice A2 Ma.length c2, .agg (wrA m A c Ao co)] wr fun e w' => ∃ A3 c3, e = .returned (.tuple #[.slice A3 (putW Ma m).1.length c3, .int .i64 (putW Ma m).2]) ∧ PgS w z0 p n Mg (putW Ma m).1 A3 c3 Mh Ah ch pk w' ∧ Below wr.heap.size wr w' := by
  have h' := h
  obtain ⟨Zg, Zk, nk, h1, h2, h3, h4, h5, h6, h7, h8, h9⟩ := h
  refine (rput37_c h6 (fun k hk => hk.2.1) h1.size rfl hM m A c Ao co hm).mono ?_
  rintro e w' ⟨A3, c3, rfl, hb, hr⟩
  refine ⟨A3, c3, rfl, ?_, hb⟩
  have hs := hb.size
  have hz : ∀ k, (z0 ≤ k ∧ k < wr.heap.size ∧ ¬ Zg k) → w'.heap[k]? = wr.heap[k]? ∧ (z0 ≤ k ∧ k < w'.heap.size ∧ ¬ Zg k) := fun k hk => ⟨hb.block k hk.2.1, hk.1, by omega, hk.2.2⟩
  have ht : ∀ k, k < w.heap.size → w'.heap[k]? = wr.heap[k]? ∧ k < w.heap.size := fun k hk => ⟨hb.block k (by omega), hk⟩
  refine ⟨Zg, Zk, nk, h1.trans (hb.mono h1.size), h2, by omega, h4.below hb, h5.below hb, hr.keep (fun k hk => ⟨rfl, ?_⟩) (fun k hk => ⟨rfl, hk⟩), h7.keep hz ht, fun b hb' => ⟨(h8 b hb').1, by have := (h8 b hb').2; omega⟩, fun b hb' => ⟨(h9 b hb').1, by have := (h9 b hb').2.1; omega, (h9 b hb').2.2⟩⟩
  rcases hk with hk | hk
  · exact ⟨hk.1, by have := hk.2.1; omega, hk.2.2⟩
  · exact ⟨by omega, hk.2, fun hz => by have := (h8 k hz).2; omega⟩
theorem PgS.sput {w wr : World} {z0 p n : Nat} {Mg Ma : List Wr} {A2 : Option Addr} {c2 : Nat} {Mh : List Wr} {Ah : Option Addr} {ch pk : Nat} (h : PgS w z0 p n Mg Ma A2 c2 Mh Ah ch pk wr) (hn : n < 100000) (hM : Mg.length < 10000) (m : Wr) (A : Option Addr) (c : Nat) (Ao : Option Addr) (co : Nat) (hm : WrIn wr w.heap.size m A c Ao co) :
    Calls Tryz.prog 13 #[.pointer (some ⟨p, 0, none⟩), .agg (wrA m A c Ao co)] wr fun e w' => e = .returned (.int .i64 (putW Mg m).2) ∧ PgS w z0 p (n + 1) (putW Mg m).1 Ma A2 c2 Mh Ah ch pk w' := by
  obtain ⟨Zg, Zk, nk, h1, h2, h3, h4, h5, h6, h7, h8, h9⟩ := h
  refine (put_c h4 hn hM m A c Ao co hm h1.size).mono ?_
  rintro e w' ⟨rfl, hr, hk⟩
  refine ⟨rfl, ?_⟩
  have hs := hk.size
  have hz : ∀ k, (z0 ≤ k ∧ k < wr.heap.size ∧ ¬ Zg k) → w'.heap[k]? = wr.heap[k]? ∧ (z0 ≤ k ∧ k < w'.heap.size ∧ ¬ (Zg k ∨ (wr.heap.size ≤ k ∧ k < w'.heap.size))) := fun k h => ⟨hk.block k h.2.1 h.2.2, h.1, by omega, fun q => q.elim h.2.2 (fun q => by omega)⟩
  have ht : ∀ k, k < w.heap.size → w'.heap[k]? = wr.heap[k]? ∧ k < w.heap.size := fun k h => ⟨hk.block k (by omega) (fun q => by have := (h8 k q).1; omega), h⟩
  refine ⟨_, Zk, nk, keepZ_below h1 hk (fun b hb => by have := (h8 b hb).1; omega) h1.size, h2, by omega, hr, h5.keep hk (fun k q => (h9 k q).2.2), h6.keep hz ht, h7.keep hz ht, fun b hb => ?_, fun b hb => ⟨(h9 b hb).1, by have := (h9 b hb).2.1; omega, fun q => q.elim (h9 b hb).2.2 (fun q => by have := (h9 b hb).2.1; omega)⟩⟩
  rcases hb with hb | hb
  · exact ⟨(h8 b hb).1, by have := (h8 b hb).2; omega⟩
  · exact ⟨by omega, hb.2⟩
theorem PgS.same {w wr : World} {z0 p n : Nat} {M : List Wr} {A2 : Option Addr} {c2 : Nat} {Mh : List Wr} {Ah : Option Addr} {ch pk : Nat} (h : PgS w z0 p n M M A2 c2 Mh Ah ch pk wr) (hM : M.length ≤ 1000) (hfit : ∀ m ∈ M, m.x.t.d.ok ∧ m.o.length ≤ 100000) {A1 : Option Addr} {c1 : Nat} {gl : List Ik} (hgl : IkG wr (fun k => k < wr.heap.size) A1 c1 gl) :
    Calls Tryz.prog 20 #[.pointer (some ⟨p, 0, none⟩), .slice A2 M.length c2, .slice A1 gl.length c1] wr fun e w' => e = .returned (.int .i64 1) ∧ Below wr.heap.size wr w' := by
  obtain ⟨Zg, Zk, nk, h1, h2, h3, h4, h5, h6, h7, h8, h9⟩ := h
  exact same37L_c (h4.regAt hM) h6 (fun k hk => hk.2.1) h1.size hM hfit hgl
theorem PgS.kept {w wr : World} {z0 p n : Nat} {Mg Ma : List Wr} {A2 : Option Addr} {c2 : Nat} {Mh : List Wr} {Ah : Option Addr} {ch pk : Nat} (h : PgS w z0 p n Mg Ma A2 c2 Mh Ah ch pk wr) (hM : Mh.length ≤ 1000) (hfit : ∀ m ∈ Mh, m.x.t.d.ok ∧ m.o.length ≤ 100000) {A1 : Option Addr} {c1 : Nat} {gl : List Ik} (hgl : IkG wr (fun k => k < wr.heap.size) A1 c1 gl) :
    Calls Tryz.prog 20 #[.pointer (some ⟨pk, 0, none⟩), .slice Ah Mh.length ch, .slice A1 gl.length c1] wr fun e w' => e = .returned (.int .i64 1) ∧ Below wr.heap.size wr w' := by
  obtain ⟨Zg, Zk, nk, h1, h2, h3, h4, h5, h6, h7, h8, h9⟩ := h
  exact same37L_c (h5.regAt hM) h7 (fun k hk => hk.2.1) h1.size hM hfit hgl
theorem PgS.clone {w wr : World} {z0 p n : Nat} {M : List Wr} {A2 : Option Addr} {c2 : Nat} {Mh : List Wr} {Ah : Option Addr} {ch pk : Nat} (h : PgS w z0 p n M M A2 c2 Mh Ah ch pk wr) (hM : M.length ≤ 1000) :
    Calls Tryz.prog 21 #[.pointer (some ⟨p, 0, none⟩)] wr fun e w' => ∃ pk', e = .returned (.pointer (some ⟨pk', 0, none⟩)) ∧ PgS w z0 p n M M A2 c2 M A2 c2 pk' w' := by
  have h' := h
  obtain ⟨Zg, Zk, nk, h1, h2, h3, h4, h5, h6, h7, h8, h9⟩ := h
  refine (clone37_c h4 hM).mono ?_
  rintro e w' ⟨pc, rfl, hr, hb⟩
  have hs := hb.size
  have hz : ∀ k, (z0 ≤ k ∧ k < wr.heap.size ∧ ¬ Zg k) → w'.heap[k]? = wr.heap[k]? ∧ (z0 ≤ k ∧ k < w'.heap.size ∧ ¬ Zg k) := fun k hk => ⟨hb.block k hk.2.1, hk.1, by omega, hk.2.2⟩
  have ht : ∀ k, k < w.heap.size → w'.heap[k]? = wr.heap[k]? ∧ k < w.heap.size := fun k hk => ⟨hb.block k (by omega), hk⟩
  exact ⟨pc, rfl, Zg, _, _, h1.trans (hb.mono h1.size), h2, by omega, h4.below hb, hr, h6.keep hz ht, h6.keep hz ht, fun b hb' => ⟨(h8 b hb').1, by have := (h8 b hb').2; omega⟩, fun b hb' => ⟨by omega, hb'.2, fun q => by have := (h8 b q).2; omega⟩⟩
theorem PgS.regAt {w wr : World} {z0 p n : Nat} {Mg Ma : List Wr} {A2 : Option Addr} {c2 : Nat} {Mh : List Wr} {Ah : Option Addr} {ch pk : Nat} (h : PgS w z0 p n Mg Ma A2 c2 Mh Ah ch pk wr) (hM : Mg.length ≤ 1000) : RegAt wr (.pointer (some ⟨p, 0, none⟩)) Mg := by
  obtain ⟨Zg, Zk, nk, h1, h2, h3, h4, h5, h6, h7, h8, h9⟩ := h
  exact h4.regAt hM
/-- at the start: a new register, its clone, two rows that have nothing. -/
theorem PgS.start {w w3 w4 : World} {z0 p pk n nk : Nat} (hb : Below w.heap.size w w3) (hz : w.heap.size ≤ z0) (hz3 : z0 ≤ w3.heap.size) (hr : RgM w3 p n [] (fun b => z0 ≤ b ∧ b < w3.heap.size)) (hb4 : Below w3.heap.size w3 w4) (hk : RgM w4 pk nk [] (fun b => w3.heap.size ≤ b ∧ b < w4.heap.size)) : PgS w z0 p n [] [] none 0 [] none 0 pk w4 := by
  have hs := hb4.size
  exact ⟨_, _, _, hb.trans (hb4.mono hb.size), hz, by omega, hr.below hb4, hk, RowW.nil _ _ _ _ _ (by omega), RowW.nil _ _ _ _ _ (by omega), fun b hb' => ⟨hb'.1, by omega⟩, fun b hb' => ⟨by omega, hb'.2, fun q => by omega⟩⟩
theorem play_fit {l : List Wr} (hl : l.length ≤ 40) (hok : ∀ m ∈ l, inOk m) (h60 : ∀ m ∈ l, m.o.length ≤ 60) (i : Nat) : (playW (l.take i)).length ≤ 40 ∧ ∀ m ∈ playW (l.take i), m.x.t.d.ok ∧ m.o.length ≤ 100000 := by
  have hti : (l.take i).length ≤ 40 := by rw [List.length_take]; omega
  refine ⟨Nat.le_trans (playW_len _) hti, fun m hm => ?_⟩
  have h := List.mem_of_mem_take (playW_good _ (by omega) m hm).1
  exact ⟨(hok m h).2.2.1, by have := h60 m h; omega⟩
end Go.Proofs.YtbiacjkkgddclaaGreat
namespace Go.Proofs.YtbiacjkkgddclaaGreat
set_option linter.unusedSimpArgs false
set_option linter.unusedVariables false
open Go Go.RowKit Go.Shelf Go.Maps

def PlI (w : World) (z0 p : Nat) (l : List Wr) (n : Nat) (av hv kv iv : Value) (wr : World) : Prop :=
  ∃ i : Nat, i ≤ n ∧ iv = .int .i64 i ∧ ∃ A2 nM c2 Ah nh ch pk jh, av = .slice A2 nM c2 ∧ hv = .slice Ah nh ch ∧ kv = .pointer (some ⟨pk, 0, none⟩) ∧ Hid (PgS w z0 p i (playW (l.take i)) (playW (l.take i)) A2 c2 (playW (l.take jh)) Ah ch pk wr ∧ nM = (playW (l.take i)).length ∧ nh = (playW (l.take jh)).length)
theorem next_play {l : List Wr} {i : Nat} (hi : i < l.length) : playW (l.take (i + 1)) = (putW (playW (l.take i)) l[i]).1 := by
  rw [List.take_succ_eq_append_getElem hi, playW_snoc]
set_option maxRecDepth 100000 in
set_option maxHeartbeats 16000000 in
theorem regPlays_walk (l : List Wr) (gl : List Ik) (w : World) (A A1 : Option Addr) (c c1 : Nat) (hrow : RowW w (fun k => k < w.heap.size) (fun k => k < w.heap.size) A c l) (hok : ∀ m ∈ l, inOk m) (hg1 : IkG w (fun k => k < w.heap.size) A1 c1 gl) :
    Calls Tryz.prog 6 #[.slice A l.length c, .slice A1 gl.length c1] w fun e w' => e = .returned (.bool true) ∧ Below w.heap.size w w' := by
  have HAW := Lib.hid (fun wx => awake37_c wx)
  have HNEW := Lib.hid (fun wx => new_c wx)
  have HINC := Lib.hid (fun wx A n c => in_c wx A n c)
  have hsm := fun (wx : World) (hx : Below w.heap.size w wx) => small37_c (w := wx) (hrow.keep (G' := fun k => k < w.heap.size) (T' := fun k => k < w.heap.size) (fun k hk => ⟨hx.block k hk, hk⟩) (fun k hk => ⟨hx.block k hk, hk⟩)) (fun k hk => Nat.lt_of_lt_of_le hk hx.size) (fun k hk => Nat.lt_of_lt_of_le hk hx.size) rfl (fun m hm => ⟨(hok m hm).2.1, (hok m hm).2.2.1, (hok m hm).2.2.2.1⟩)
  obtain ⟨n, hn⟩ : ∃ n, n = l.length := ⟨_, rfl⟩
  obtain ⟨kg, hkg⟩ : ∃ n, n = gl.length := ⟨_, rfl⟩
  have hcc : n ≤ c ∧ c ≤ 9223372036854775807 := ⟨by rw [hn]; exact hrow.1, hrow.2.1⟩
  have hc1 := hcc.1
  have hc2 := hcc.2
  have HROW := Lib.hid (row_at hrow)
  have HOK := Lib.hid hok
  rw [← hn] at hsm
  rw [← hn, ← hkg]
  have HSM := Lib.hid hsm
  have HN := Lib.hid hn
  have HKG := Lib.hid hkg
  have HIG := Lib.hid (fun (wz : World) (h : Below w.heap.size w wz) => show IkG wz (fun k => k < wz.heap.size) A1 c1 gl from (hg1.below h).mono (fun k hk => Nat.lt_of_lt_of_le hk h.size))
  have HIC := Lib.hid (show ∀ (x : Ct) (A : Option Addr) (c : Nat), (Tryz.prog.info? 37).map (·.size) = some (contA x A c).size ∧ (Tryz.prog.info? 37).map (·.size) = some (contA x A c).toList.length ∧ (contA zCt none 0).size = (contA x A c).size ∧ (contA x A c).all (·.oneCell') = true from fun x A c => ⟨infC, infC, rfl, cont_one _ _ _⟩)
  clear hsm hn hrow hok hcc hkg hg1
  go_enter Tryz.func6, Tryz.ntmps6
  rcases smallW_cases l with hs | hs
  · rw [hs] at HSM
    clear hs
    go_wp2_with (first | (go_at_call 8; refine (HAW.out _).mono ?_; rintro e w1 ⟨rfl, hb1⟩; have HB1 := Lib.hid hb1; clear hb1) | (go_at_call 9; refine (HSM.out w1 HB1.out).mono ?_; rintro e w2 ⟨rfl, hb2⟩; have HB2 := Lib.hid hb2; clear hb2) | fail)
    first | go_ret | go_ret2 | (refine bodyPost_ret (results_tmp rfl _ _ _) rfl ?_)
    exact ⟨by kernel_rfl, HB1.out.trans (HB2.out.mono HB1.out.size)⟩
  · rw [hs] at HSM
    obtain ⟨h40, h60, -⟩ := smallW_one (l := l) (by rw [hs]; decide)
    have H40 := Lib.hid (And.intro h40 h60)
    have hn40 : n ≤ 40 := by rw [HN.out]; exact h40
    clear hs h40 h60
    by_cases hg60 : 60 < kg
    · have hgI : (60 : Int) < (kg : Int) := by omega
      go_wp2_with (first | (go_at_call 8; refine (HAW.out _).mono ?_; rintro e w1 ⟨rfl, hb1⟩; have HB1 := Lib.hid hb1; clear hb1) | (go_at_call 9; refine (HSM.out w1 HB1.out).mono ?_; rintro e w2 ⟨rfl, hb2⟩; have HB2 := Lib.hid hb2; clear hb2) | fail)
      first | go_ret | go_ret2 | (refine bodyPost_ret (results_tmp rfl _ _ _) rfl ?_)
      exact ⟨by kernel_rfl, HB1.out.trans (HB2.out.mono HB1.out.size)⟩
    have hgI : ¬ ((60 : Int) < (kg : Int)) := by omega
    go_upto_region 8 with (first | (go_at_call 8; refine (HAW.out _).mono ?_; rintro e w1 ⟨rfl, hb1⟩; have HB1 := Lib.hid hb1; clear hb1) | (go_at_call 9; refine (HSM.out w1 HB1.out).mono ?_; rintro e w2 ⟨rfl, hb2⟩; have HB2 := Lib.hid hb2; clear hb2) | (go_at_call 12; refine (HNEW.out _).mono ?_; rintro e w3 ⟨p, rfl, hr3, hb3⟩; have H3 := Lib.hid (And.intro hr3 hb3); clear hr3 hb3) | (go_at_call 21; refine (clone37_c H3.out.1 (by decide)).mono ?_; rintro e w4 ⟨pk0, rfl, hr4, hb4⟩; have H4 := Lib.hid (And.intro hr4 hb4); clear hr4 hb4) | fail)
    clear hgI
    obtain ⟨z0, hz0⟩ : ∃ z, z = w2.heap.size := ⟨_, rfl⟩
    have hb02 : Below w.heap.size w w2 := HB1.out.trans (HB2.out.mono HB1.out.size)
    have hb03 : Below w.heap.size w w3 := hb02.trans (H3.out.2.mono hb02.size)
    have hz0w : w.heap.size ≤ z0 := by rw [hz0]; exact hb02.size
    have hst : PlI w z0 p l n (.slice none 0 0) (.slice none 0 0) (.pointer (some ⟨pk0, 0, none⟩)) (.int .i64 0) w4 :=
      ⟨0, Nat.zero_le _, rfl, none, 0, 0, none, 0, 0, pk0, 0, rfl, rfl, rfl, Lib.hid ⟨PgS.start hb03 hz0w (by rw [hz0]; exact H3.out.2.size) (H3.out.1.zone (fun b hb => by rw [hz0]; exact hb)) H4.out.2 H4.out.1, rfl, rfl⟩⟩
    have HST := Lib.hid hst
    have HZ := Lib.hid hz0w
    clear hz0 hb02 hb03 hst hz0w
    go_wp2
    go_loopw [6, 7, 8, 32] (fun av hv kv iv wr => PlI w z0 p l n av hv kv iv wr) (fun _ _ _ iv _ => n - (intOf iv).toNat)
    case atStart => exact HST.out
    case round =>
     obtain ⟨i, hin, rfl, A2, nM, c2, Ah, nh, ch, pk, jh, rfl, rfl, rfl, hR⟩ := hrel
     by_cases hi : i < n
     · have hiI : (i : Int) < (n : Int) := by omega
       have hi0 : (0 : Int) ≤ i := by omega
       have hil : i < l.length := by rw [← HN.out]; exact hi
       have hbw : Below w.heap.size w wr := hR.out.1.bel
       obtain ⟨q, o, hA, A', c', Ao, co, hrg, hsl, hio⟩ := HROW.out wr hbw i hil
       subst hA
       obtain ⟨m, hm⟩ : ∃ m, m = l[i] := ⟨_, rfl⟩
       rw [← hm] at hrg hsl hio
       have HSL0 := Lib.hid (And.intro hsl hio)
       have hmin := HOK.out m (by rw [hm]; exact List.getElem_mem hil)
       obtain ⟨CW, hCW⟩ : ∃ C, C = wrA m A' c' Ao co := ⟨_, rfl⟩
       obtain ⟨gb, hgb⟩ : ∃ b, b = wr.heap.size := ⟨_, rfl⟩
       obtain ⟨w5, hw5⟩ : ∃ w5, w5 = wr.alloc (.cells CW 46) := ⟨_, rfl⟩
       have hb5 : Below wr.heap.size wr w5 := by rw [hw5]; exact (bel1 _ _).1
       have hk5 : w5.heap[gb]? = some (.cells CW 46) := by rw [hw5, hgb]; exact heap_alloc_new _ _
       have hic := rw_info m A' c' Ao co
       have h1w := wrA_one m A' c' Ao co
       have hzs : (wrA zWr none 0 none 0).size = (wrA m A' c' Ao co).size := rfl
       have hws : w.heap.size ≤ wr.heap.size := Below.size hbw
       have hsl5 : SlAt w5 wr.heap.size A' c' m.x.t.l := (hsl.more hws).below hb5
       have hio5 : IkG w5 (fun k => k < wr.heap.size) Ao co m.o := (hio.mono (fun k hk => Nat.lt_of_lt_of_le hk hws)).below hb5
       rw [← hCW] at hrg hic h1w hzs
       have HX := Lib.hid (And.intro hrg (And.intro hic (And.intro h1w (And.intro hzs (And.intro hk5 (And.intro hb5 (And.intro hsl5 hio5)))))))
       have HMIN := Lib.hid hmin
       have HW5 := Lib.hid hw5
       have HGB := Lib.hid hgb
       have HM := Lib.hid hm
       have HCW := Lib.hid hCW
       clear hrg hic h1w hzs hk5 hb5 hsl5 hio5 hmin hw5 hgb hm hCW hsl hio hws
       obtain ⟨M, hM⟩ : ∃ M, M = playW (l.take i) := ⟨_, rfl⟩
       obtain ⟨M', hM'⟩ : ∃ M', M' = (putW M m).1 := ⟨_, rfl⟩
       obtain ⟨er, her⟩ : ∃ er, er = (putW M m).2 := ⟨_, rfl⟩
       obtain ⟨Mh, hMh⟩ : ∃ M, M = playW (l.take jh) := ⟨_, rfl⟩
       have hfi := play_fit H40.out.1 HOK.out H40.out.2 i
       have hnx : playW (l.take (i + 1)) = M' := by rw [next_play hil, ← HM.out, ← hM, hM']
       have hfi2 := play_fit H40.out.1 HOK.out H40.out.2 (i + 1)
       rw [hnx] at hfi2
       rw [← hM] at hfi
       have hpg := hR.out
       rw [← hM, ← hMh] at hpg
       have hwi : ∀ wz, Below w5.heap.size w5 wz → WrIn wz w.heap.size m A' c' Ao co := fun wz hz => by
         have hb : Below wr.heap.size wr wz := HX.out.2.2.2.2.2.1.trans (hz.mono HX.out.2.2.2.2.2.1.size)
         exact wrIn_of HMIN.out (H40.out.2 m (by rw [HM.out]; exact List.getElem_mem hil)) (HSL0.out.1.below (hb.mono hbw.size)) (HSL0.out.2.below (hb.mono hbw.size))
       have hbox : ∀ wz, Below w5.heap.size w5 wz → wz.rangeAt gb 0 CW.toList := fun wz hz => row_range_ ((hz.block gb (Array.getElem?_eq_some_iff.1 HX.out.2.2.2.2.1).1).trans HX.out.2.2.2.2.1) _ _ (fun j v hv => by rw [Nat.zero_add, ← Array.getElem?_toList]; exact hv)
       have hpg5 : PgS w z0 p i M M A2 c2 Mh Ah ch pk w5 := hpg.1.below HX.out.2.2.2.2.2.1
       have hrp : Calls Tryz.prog 19 #[.slice A2 nM c2, .agg CW] w5 fun e w' => ∃ A3 c3 n3, e = .returned (.tuple #[.slice A3 n3 c3, .int .i64 er]) ∧ (PgS w z0 p i M M' A3 c3 Mh Ah ch pk w' ∧ n3 = M'.length) ∧ Below w5.heap.size w5 w' := by
         rw [hpg.2.1, HCW.out, her, hM']
         refine (hpg5.rput (by have := hfi.1; omega) m A' c' Ao co (hwi w5 (Below.refl _ _))).mono ?_
         rintro e w' ⟨A3, c3, rfl, h1, h2⟩
         exact ⟨A3, c3, _, rfl, ⟨h1, rfl⟩, h2⟩
       have hsp : ∀ wz A3 c3, Below w5.heap.size w5 wz → PgS w z0 p i M M' A3 c3 Mh Ah ch pk wz → Calls Tryz.prog 13 #[.pointer (some ⟨p, 0, none⟩), .agg CW] wz fun e w' => e = .returned (.int .i64 er) ∧ PgS w z0 p (i + 1) M' M' A3 c3 Mh Ah ch pk w' := fun wz A3 c3 hz hp => by
         have h := hp.sput (by omega) (by have := hfi.1; omega) m A' c' Ao co (hwi wz hz)
         rw [← hM', ← her, ← HCW.out] at h
         exact h
       have HRP := Lib.hid hrp
       have HSP := Lib.hid hsp
       have HBOX := Lib.hid hbox
       have HFI := Lib.hid hfi2
       have HNXT := Lib.hid hnx
       have HMH := Lib.hid (And.intro hMh hpg.2.2)
       have HF := Lib.hid (Below.refl w5.heap.size w5)
       clear hM hM' her hMh hfi hfi2 hnx hpg hwi hbox hpg5 hrp hsp hbw HSL0
       go_upto_region 11 with (first | (refine wpList_mid rfl 46 _ rfl q (o + i * 32) rfl CW.toList _ HX.out.1 undRw rfl HX.out.2.1.2 ?_; simp only [Array.toArray_toList]) | (refine wpList_rwVar rfl rfl wr.heap.size rfl ?_) | (refine wpList_storeFresh (w := wr) rfl 46 _ _ rfl wr.heap.size rfl CW rfl rfl HX.out.2.1.1 HX.out.2.2.2.1 HX.out.2.2.1 ?_) | fail)
       rw [← HW5.out, ← HGB.out]
       go_upto_region 15 with (first | (refine wpList_mid rfl 46 _ rfl gb 0 rfl CW.toList _ (HBOX.out _ HF.out) undRw rfl HX.out.2.1.2 ?_; simp only [Array.toArray_toList]) | (go_at_call 19; refine HRP.out.mono ?_; rintro e w6 ⟨A3, c3, n3, rfl, hp6, hb6⟩; have HP6 := Lib.hid hp6; clear HF; have HF := Lib.hid hb6; clear hp6 hb6) | (go_at_call 13; refine (HSP.out _ _ _ HF.out HP6.out.1).mono ?_; rintro e w7 ⟨rfl, hp7⟩; have HP7 := Lib.hid hp7; clear hp7) | fail)
       have hs1 : ∀ wz, Below w7.heap.size w7 wz → Calls Tryz.prog 20 #[.pointer (some ⟨p, 0, none⟩), .slice A3 n3 c3, .slice A1 kg c1] wz fun e w' => e = .returned (.int .i64 1) ∧ Below wz.heap.size wz w' := fun wz hz => by
         have hp := HP7.out.below hz
         rw [HP6.out.2, HKG.out]
         exact hp.same (by have := HFI.out.1; omega) HFI.out.2 (HIG.out wz hp.bel)
       have hs2 : ∀ wz, Below w7.heap.size w7 wz → Calls Tryz.prog 20 #[.pointer (some ⟨p, 0, none⟩), .slice A3 n3 c3, .slice none 0 0] wz fun e w' => e = .returned (.int .i64 1) ∧ Below wz.heap.size wz w' := fun wz hz => by
         have hp := HP7.out.below hz
         rw [HP6.out.2]
         exact hp.same (by have := HFI.out.1; omega) HFI.out.2 (gl := []) (IkG.nil _ _ _ _ (by omega))
       have HS1 := Lib.hid hs1
       have HS2 := Lib.hid hs2
       clear hs1 hs2
       have HSA := HS1
       go_upto_region 17 with (first | (go_at_call 20; refine (HSA.out w7 (Below.refl _ _)).mono ?_; clear HSA; rintro e w8 ⟨rfl, hb8⟩; have HB8 := Lib.hid hb8; clear hb8) | (go_at_call 20; refine (HS2.out w8 HB8.out).mono ?_; rintro e w9 ⟨rfl, hb9⟩; have HB9 := Lib.hid hb9; clear hb9) | fail)
       have hp9 := HP7.out.below (HB8.out.trans (HB9.out.mono HB8.out.size))
       have HP9 := Lib.hid hp9
       have HCL := Lib.hid (hp9.clone (by have := HFI.out.1; omega))
       clear hp9
       by_cases hhalf : i = n / 2
       · have hdec : ((i : Int) == Int.tdiv (n : Int) 2) = true := by simp; omega
         go_wp2_with (first | (go_at_call 21; refine HCL.out.mono ?_; rintro e w10 ⟨pk', rfl, hp10⟩; have HP10 := Lib.hid hp10; clear hp10) | fail)
         go_roundw
         case measure => simp [intOf]; omega
         case rel => exact ⟨i + 1, by omega, by go_num, A3, n3, c3, A3, n3, c3, pk', i + 1, rfl, rfl, rfl, Lib.hid ⟨by rw [HNXT.out]; exact HP10.out, by rw [HNXT.out]; exact HP6.out.2, by rw [HNXT.out]; exact HP6.out.2⟩⟩
       · have hdec : ((i : Int) == Int.tdiv (n : Int) 2) = false := by simp; omega
         go_wp2_with (fail)
         go_roundw
         case measure => simp [intOf]; omega
         case rel => exact ⟨i + 1, by omega, by go_num, A3, n3, c3, Ah, nh, ch, pk, jh, rfl, rfl, rfl, Lib.hid ⟨by rw [HNXT.out, ← HMH.out.1]; exact HP9.out, by rw [HNXT.out]; exact HP6.out.2, by rw [← HMH.out.1]; exact HMH.out.2⟩⟩
     · have hie : n = i := by omega
       subst hie
       have hiI : ¬ ((n : Int) < (n : Int)) := by omega
       obtain ⟨M, hM⟩ : ∃ M, M = playW (l.take n) := ⟨_, rfl⟩
       obtain ⟨Mh, hMh⟩ : ∃ M, M = playW (l.take jh) := ⟨_, rfl⟩
       have hfi := play_fit H40.out.1 HOK.out H40.out.2 n
       have hfh := play_fit H40.out.1 HOK.out H40.out.2 jh
       have hpg := hR.out
       obtain ⟨W, hW⟩ : ∃ W, W = wr := ⟨_, rfl⟩
       rw [← hM, ← hMh, ← hW] at hpg
       rw [← hM] at hfi
       rw [← hMh] at hfh
       rw [← hW]
       obtain ⟨L, hL⟩ : ∃ L, L = standW M (fun _ => false) := ⟨_, rfl⟩
       obtain ⟨k1, hk1⟩ : ∃ k, k = L.length - 1 := ⟨_, rfl⟩
       have hld : (lastC L).t.d.ok := by
         rcases Nat.eq_zero_or_pos L.length with h | h
         · rw [List.length_eq_zero_iff.1 h]; exact zNd_ok
         · obtain ⟨m, -, -, hm, e⟩ := last_mem (show L.length = (L.length - 1) + 1 by omega)
           rw [e]
           rw [hL] at hm
           exact (hfi.2 m (stand_sub.1 hm).1).1
       have hget : ∀ wz, Below W.heap.size W wz → ∀ gv, (GoneV wz gv (fun _ => false) ∨ GoneV wz gv (fun x => decide (x ∈ ([] : List Ik)))) → Calls Tryz.prog 17 #[.pointer (some ⟨p, 0, none⟩), gv] wz (GetP wz L) := fun wz hz gv hg => by
         have hr := hpg.1.regAt (by have := hfi.1; omega)
         rcases hg with hg | hg
         · rw [hL]; exact hr.get wz hz gv _ hg
         · have h := hr.get wz hz gv _ hg
           have e : standW M (fun x => decide (x ∈ ([] : List Ik))) = L := (congrArg (standW M) (show (fun x => decide (x ∈ ([] : List Ik))) = (fun _ => false) from funext fun x => decide_eq_false (List.not_mem_nil))).trans hL.symm
           rw [e] at h; exact h
       have hkp : ∀ wz, Below W.heap.size W wz → Calls Tryz.prog 20 #[.pointer (some ⟨pk, 0, none⟩), .slice Ah nh ch, .slice A1 kg c1] wz fun e w' => e = .returned (.int .i64 1) ∧ Below wz.heap.size wz w' := fun wz hz => by
         have hp := hpg.1.below hz
         rw [hpg.2.2, HKG.out]
         exact hp.kept (by have := hfh.1; omega) hfh.2 (HIG.out wz hp.bel)
       have HGET := Lib.hid hget
       have HKP := Lib.hid hkp
       have HLD := Lib.hid hld
       have HK1 := Lib.hid hk1
       have HBW := Lib.hid hpg.1.bel
       clear hM hMh hfi hfh hpg hW hL hk1 hld hget hkp hR HST
       go_upto_region 21 with (first | (go_at_call 17; refine (HGET.out W (Below.refl _ _) _ (.inl (gone_nil _))).mono ?_; rintro e w21 ⟨A21, c21, Ao21, co21, rfl, hs, hr, hb⟩; have HG21 := Lib.hid (And.intro hs hb); clear hs hr hb; obtain ⟨CA21, hCA⟩ : ∃ C, C = contA (lastC L) A21 c21 := ⟨_, rfl⟩; have hia := HIC.out (lastC L) A21 c21; rw [← hCA] at hia ⊢; have HCA21 := Lib.hid (And.intro hCA hia); clear hCA hia) | (refine wpList_contVar rfl rfl w21.heap.size rfl ?_) | (refine wpList_storeFresh (w := w21) rfl 37 _ _ rfl w21.heap.size rfl CA21 rfl rfl HCA21.out.2.1 HCA21.out.2.2.2.1 HCA21.out.2.2.2.2 ?_) | fail)
       obtain ⟨w22, hw22⟩ : ∃ x, x = w21.alloc (.cells CA21 37) := ⟨_, rfl⟩
       obtain ⟨g22, hg22⟩ : ∃ g, g = w21.heap.size := ⟨_, rfl⟩
       rw [← hw22, ← hg22, ← HK1.out]
       have hb2122 : Below w21.heap.size w21 w22 := by rw [hw22]; exact (bel1 _ _).1
       have hb22 : Below W.heap.size W w22 := HG21.out.2.trans (hb2122.mono HG21.out.2.size)
       have hk22 : w22.heap[g22]? = some (.cells CA21 37) := by rw [hw22, hg22]; exact heap_alloc_new _ _
       have H22 := Lib.hid (And.intro hb2122 (And.intro hk22 hb22))
       clear hw22 hg22 hb2122 hb22 hk22
       go_upto_region 22 with (first | (go_at_call 16; refine (HINC.out _ _ _ _).mono ?_; rintro e w23 ⟨rfl, hin⟩; have HIN23 := Lib.hid hin; clear hin) | (go_at_call 17; refine (HGET.out w23 (H22.out.2.2.trans (by rw [HIN23.out]; exact ((bel1 _ _).1).mono H22.out.2.2.size)) _ (.inr (in_at (IkG.nil w22 _ none 0 (by omega)) rfl (Below.refl _ _) HIN23.out).1)).mono ?_; rintro e w24 ⟨A24, c24, Ao24, co24, rfl, hs, hr, hb⟩; have HG24 := Lib.hid (And.intro hs hb); clear hs hr hb; obtain ⟨CA24, hCA⟩ : ∃ C, C = contA (lastC L) A24 c24 := ⟨_, rfl⟩; have hia := HIC.out (lastC L) A24 c24; rw [← hCA] at hia ⊢; have HCA24 := Lib.hid (And.intro hCA hia); clear hCA hia) | (refine wpList_contVar rfl rfl w24.heap.size rfl ?_) | (refine wpList_storeFresh (w := w24) rfl 37 _ _ rfl w24.heap.size rfl CA24 rfl rfl HCA24.out.2.1 HCA24.out.2.2.2.1 HCA24.out.2.2.2.2 ?_) | fail)
       obtain ⟨w25, hw25⟩ : ∃ x, x = w24.alloc (.cells CA24 37) := ⟨_, rfl⟩
       obtain ⟨g25, hg25⟩ : ∃ g, g = w24.heap.size := ⟨_, rfl⟩
       rw [← hw25, ← hg25, ← HK1.out]
       have hb23 : Below w22.heap.size w22 w23 := by rw [HIN23.out]; exact (bel1 _ _).1
       have hb2224 : Below w22.heap.size w22 w24 := hb23.trans (HG24.out.2.mono hb23.size)
       have hb2425 : Below w24.heap.size w24 w25 := by rw [hw25]; exact (bel1 _ _).1
       have hb2225 : Below w22.heap.size w22 w25 := hb2224.trans (hb2425.mono hb2224.size)
       have hb25 : Below W.heap.size W w25 := H22.out.2.2.trans (hb2225.mono H22.out.2.2.size)
       have hk25 : w25.heap[g25]? = some (.cells CA24 37) := by rw [hw25, hg25]; exact heap_alloc_new _ _
       have hb2125 : Below w21.heap.size w21 w25 := H22.out.1.trans (hb2225.mono H22.out.1.size)
       have hrr : ∀ wz, Below w25.heap.size w25 wz → wz.rangeAt g22 0 CA21.toList ∧ wz.rangeAt g25 0 CA24.toList := fun wz hz => by
         have hz2 : Below w22.heap.size w22 wz := hb2225.trans (hz.mono hb2225.size)
         exact ⟨row_range_ ((hz2.block g22 (Array.getElem?_eq_some_iff.1 H22.out.2.1).1).trans H22.out.2.1) _ _ (fun j v hv => by rw [Nat.zero_add, ← Array.getElem?_toList]; exact hv), row_range_ ((hz.block g25 (Array.getElem?_eq_some_iff.1 hk25).1).trans hk25) _ _ (fun j v hv => by rw [Nat.zero_add, ← Array.getElem?_toList]; exact hv)⟩
       have hsm : ∀ wz, Below w25.heap.size w25 wz → Calls Tryz.prog 18 #[.agg CA21, .agg CA24] wz fun e w' => e = .returned (.bool true) ∧ Below wz.heap.size wz w' := fun wz hz => by
         have z1 := hb2125.trans (hz.mono hb2125.size)
         have z2 := hb2425.trans (hz.mono hb2425.size)
         have h := rcsame_c (lastC L) (lastC L) wz wz.heap.size A21 A24 c21 c24 HLD.out (((HG21.out.1.at_ (B := w21.heap.size) (fun _ _ h => h.2)).below z1).more z1.size) HLD.out (((HG24.out.1.at_ (B := w24.heap.size) (fun _ _ h => h.2)).below z2).more z2.size) (Nat.le_refl _)
         rw [sameC_self] at h
         unfold contV at h
         rw [← HCA21.out.1, ← HCA24.out.1] at h
         exact h
       have HSMC := Lib.hid hsm
       have HRR := Lib.hid hrr
       have HB25 := Lib.hid hb25
       clear hw25 hg25 hb23 hb2224 hb2425 hb2225 hb25 hk25 hb2125 hrr hsm
       go_wp2_with (first | (go_at_call 20; refine (HKP.out w25 HB25.out).mono ?_; rintro e w26 ⟨rfl, hb26⟩; have HB26 := Lib.hid hb26; have hr26 := HRR.out w26 hb26; clear hb26) | (refine wpList_mid rfl 37 _ rfl g22 0 rfl CA21.toList _ hr26.1 undC rfl HCA21.out.2.2.1 ?_; simp only [Array.toArray_toList]) | (refine wpList_mid rfl 37 _ rfl g25 0 rfl CA24.toList _ hr26.2 undC rfl HCA24.out.2.2.1 ?_; simp only [Array.toArray_toList]) | (go_at_call 18; refine (HSMC.out w26 HB26.out).mono ?_; rintro e w27 ⟨rfl, hb27⟩; have HB27 := Lib.hid hb27; clear hb27) | fail)
       first | go_ret | go_ret2 | (refine bodyPost_ret (results_tmp rfl _ _ _) rfl ?_)
       have h1 := HB26.out.trans (HB27.out.mono HB26.out.size)
       exact ⟨by kernel_rfl, HBW.out.trans ((HB25.out.trans (h1.mono HB25.out.size)).mono HBW.out.size)⟩
end Go.Proofs.YtbiacjkkgddclaaGreat
