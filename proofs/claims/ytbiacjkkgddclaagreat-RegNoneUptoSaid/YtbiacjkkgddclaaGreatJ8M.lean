/- law 37's awake. -/
import Derived.Test.YtbiacjkkgddclaaGreatJ6M
import Derived.Test.YtbiacjkkgddclaaGreatJ2NoGt
import Derived.Test.YtbiacjkkgddclaaGreatXmJ7Xa1
namespace Go.Proofs.YtbiacjkkgddclaaGreat
set_option linter.unusedSimpArgs false
set_option linter.unusedVariables false
open Go Go.RowKit Go.Shelf Go.Maps

/-- `[]api.Id{x}`, at one operation. -/
theorem step_oneId {ops : Array Oper} {o : Oper} {a : Act} {w : World} {K : Act → World → Prop} {Q : Exit → Act → World → Prop} {E : Prop} (hw : Region.wanted o (yielded ops a.tmps) = true) (i : Nat) (ho : o.op = .buildSlice 38 1 #[(0, .tmp i)]) (N : Array Value) (hev : a.eval (.tmp i) = .agg N) (hn : N.size = 2)
    (h : K (a.put o.dst (.slice (some ⟨w.heap.size, 0, none⟩) 1 1)) (w.alloc (.cells N 28))) : if Region.wanted o (yielded ops a.tmps) = true then Oper.wp Tryz.prog o a w K Q else E := by
  rw [if_pos hw]
  obtain ⟨ie, hie, hzz, hsz, hby⟩ := info_partsC infoCe
  refine wp_buildSlice 38 28 1 #[(0, .tmp i)] ho N ie _ undCs hie hzz (by rw [hsz]; decide) (by rw [hsz]; decide) ?_ h
  have e1 : ((#[(0, Operand.tmp i)] : Array (Nat × Operand)).map fun (i, x) => (i, a.eval x)).toList = (([Value.agg N]).zipIdx 0).map fun x => (x.2, x.1) := by simp [hev]
  have e2 : ([Value.agg N].flatMap fun v => v.cells.toList).toArray = N := by simp [Value.cells]
  rw [e1, hsz]
  have := Great.fill_whole (s := 2) (by decide) [Value.agg N] ((Array.range (1 * 2)).map ((Value.agg #[.int .i64 0, .int .i64 0]).cells[· % (Value.agg #[.int .i64 0, .int .i64 0]).cells.size]!)) (fun v hv => by simp only [List.mem_singleton] at hv; subst hv; exact hn) (by simp)
  rw [e2] at this
  exact this
def aw1 : Wr := ⟨⟨1, 1⟩, fiveC, []⟩
def aw2 : Wr := ⟨⟨2, 2⟩, zCt, [⟨1, 1⟩]⟩
def aw3 : Wr := ⟨⟨2, 2⟩, zCt, []⟩
theorem aw_right : rightC fiveC = true ∧ rightC zCt = true := ⟨by kernel_rfl, by kernel_rfl⟩
theorem aw_bef : bef ⟨1, 1⟩ ⟨2, 2⟩ ∧ ¬ bef ⟨2, 2⟩ ⟨1, 1⟩ := by unfold bef; decide
theorem aw_dated : datedB aw1 = true ∧ datedB aw2 = true ∧ datedB aw3 = true := by
  refine ⟨?_, ?_, ?_⟩ <;> simp [datedB, aw1, aw2, aw3, chainB, mayI, aw_bef.1]
theorem aw_put1 : putW [] aw1 = ([aw1], 0) := by
  unfold putW
  rw [if_neg (by rw [aw_dated.1]; decide), if_neg (by rw [show aw1.x = fiveC from rfl, aw_right.1]; decide)]
  rfl
theorem aw_put2 : putW [aw1] aw2 = ([aw1, aw2], 0) := by
  unfold putW
  rw [if_neg (by rw [aw_dated.2.1]; decide), if_neg (by rw [show aw2.x = zCt from rfl, aw_right.2]; decide), if_neg (by decide), if_neg (by decide)]
  have : ¬ bef aw2.id aw1.id := aw_bef.2
  simp [insW, this]
theorem aw_put3 : putW [aw1, aw2] aw3 = ([aw1, aw2], 4) := by
  unfold putW
  rw [if_neg (by rw [aw_dated.2.2]; decide), if_neg (by rw [show aw3.x = zCt from rfl, aw_right.2]; decide), if_pos (by decide)]
theorem aw_standN : standW [aw1, aw2] (fun _ => false) = [aw2] := rfl
theorem aw_standG : standW [aw1, aw2] (fun x => decide (x = ⟨2, 2⟩)) = [aw1] := rfl
theorem zVl_ok : zVl.ok := by unfold Vl.ok i64; decide
theorem five_vok : fiveC.v.ok := by unfold Vl.ok i64; decide
theorem aw_in1 (w : World) (B : Nat) : WrIn w B aw1 none 0 none 0 := ⟨by unfold Ik.ok i64; decide, five_vok, zNd_ok, by decide, slAt_nil _ _, IkG.nil _ _ _ _ (by omega), fun _ h => (List.not_mem_nil h).elim, by decide⟩
theorem aw_in3 (w : World) (B : Nat) : WrIn w B aw3 none 0 none 0 := ⟨by unfold Ik.ok i64; decide, zVl_ok, zNd_ok, by decide, slAt_nil _ _, IkG.nil _ _ _ _ (by omega), fun _ h => (List.not_mem_nil h).elim, by decide⟩
theorem aw_in2 {w : World} {B gs : Nat} (h : w.heap[gs]? = some (.cells (Ik.cs ⟨1, 1⟩).toArray 28)) (hB : gs < B) : WrIn w B aw2 none 0 (some ⟨gs, 0, none⟩) 1 := by
  refine ⟨by unfold Ik.ok i64; decide, zVl_ok, zNd_ok, by decide, slAt_nil _ _, ⟨by decide, by omega, .inr ⟨gs, 0, rfl, hB, fun j hj => ?_⟩⟩, fun k hk => ?_, by decide⟩
  · have : j = 0 := by simp [aw2] at hj; exact hj
    subst this
    exact ik_range h
  · simp only [aw2, List.mem_singleton] at hk
    subst hk
    unfold Ik.ok i64; decide
set_option maxRecDepth 100000 in
/-- awake's own function: who is two? -/
theorem awake1_c {w : World} {g2 : Nat} (h : w.rangeAt g2 0 [.int .i64 2, .int .i64 2]) (x : Ik) : Calls Tryz.prog 23 (#[.agg #[.int .i64 x.a, .int .i64 x.n]] ++ #[.pointer (some ⟨g2, 0, none⟩)]) w fun e w' => e = .returned (.bool (decide (x = ⟨2, 2⟩))) ∧ Below w.heap.size w w' := by
  obtain ⟨W0, hW0⟩ : ∃ W, W = w.alloc (.cells #[.int .i64 x.a, .int .i64 x.n] 28) := ⟨_, rfl⟩
  have hbw : Below w.heap.size w W0 := by rw [hW0]; exact (bel1 _ _).1
  have hk0 : W0.rangeAt w.heap.size 0 [.int .i64 x.a, .int .i64 x.n] := ik_range (by rw [hW0]; exact heap_alloc_new _ _)
  have hg : W0.rangeAt g2 0 [.int .i64 2, .int .i64 2] := fun i v hv => by rw [hW0]; exact (World.cell?_alloc_some _ _ _ (by rw [h i v hv]; rfl)).trans (h i v hv)
  have HIL := Lib.hid (show ∀ a b : Value, (Tryz.prog.info? 28).map (·.size) = some [a, b].length from fun _ _ => ikInfo)
  have HW := Lib.hid hW0
  have HR := Lib.hid hk0
  have HG := Lib.hid hg
  have HB := Lib.hid hbw
  clear hW0 hbw hk0 hg h
  show Calls Tryz.prog 23 #[.agg #[.int .i64 x.a, .int .i64 x.n], .pointer (some ⟨g2, 0, none⟩)] w _
  obtain ⟨xa, xn⟩ := x
  dsimp only at HR HW ⊢
  have hze := fun w => eqI w xa xn 2 2
  have hd : decide ((⟨xa, xn⟩ : Ik) = ⟨2, 2⟩) = decide (xa = 2 ∧ xn = 2) := by simp
  rw [hd]
  clear hd
  generalize decide (xa = 2 ∧ xn = 2) = r at hze ⊢
  go_enter Tryz.func23, Tryz.ntmps23
  go_upto_region 1 with (fail)
  rw [← HW.out]
  go_wp2_with (first | (refine wpList_mid rfl 28 _ rfl w.heap.size 0 rfl [.int .i64 xa, .int .i64 xn] _ HR.out ikUnd rfl (HIL.out _ _) ?_) | (refine wpList_mid rfl 28 _ rfl g2 0 rfl [.int .i64 2, .int .i64 2] _ HG.out ikUnd rfl (HIL.out _ _) ?_) | fail)
  go_ret
  exact ⟨rfl, HB.out⟩
theorem ldI1_run {o : Oper} {ρ : Operand → Value} {w : World} (x : Operand) (ho : o.op = .load 3 x) (p : Addr) (hx : ρ x = .pointer (some p)) (v : Value) (hc : w.cell? p = some v) : (execOp ρ o).run Tryz.prog w = .ok (.value v) w := by
  unfold execOp
  simp only [ho, hx]
  simp [go_sem, hc]
/-- from a zone of one's own. -/
theorem below_of_zone {Z : Nat → Prop} {B : Nat} {w w' : World} (h : KeepZ Z w w') (hz : ∀ b, Z b → B ≤ b) (hB : B ≤ w.heap.size) : Below B w w' := ⟨h.os, h.tape, h.output, h.size, fun k hk => h.block k (by omega) (fun e => by have := hz k e; omega)⟩
set_option maxRecDepth 100000 in
set_option maxHeartbeats 8000000 in
theorem awake37_c (w : World) : Calls Tryz.prog 8 #[] w fun e w' => e = .returned (.bool true) ∧ Below w.heap.size w w' := by
  have HNEW := Lib.hid (new_c w)
  have HIK := Lib.hid (show ∀ x : Ik, (Tryz.prog.info? 28).map (·.size) = some x.cs.length from fun _ => ikInfo)
  have HFV := Lib.hid (fun wx => five_c wx)
  go_enter Tryz.func8, Tryz.ntmps8
  go_upto_region 2 with (first | (go_at_call 12; refine HNEW.out.mono ?_; rintro e w1 ⟨p, rfl, hr1, hb1⟩; have H1 := Lib.hid (And.intro hr1 hb1); clear hr1 hb1) | fail)
  go_upto_region 3 with (fail)
  obtain ⟨g1, hg1⟩ : ∃ g, g = w1.heap.size := ⟨_, rfl⟩
  obtain ⟨w2, hw2⟩ : ∃ x, x = (w1.alloc (.cells #[.int .i64 1, .int .i64 1] 28)).alloc (.cells #[.int .i64 2, .int .i64 2] 28) := ⟨_, rfl⟩
  have hb2 : Below w1.heap.size w1 w2 := by rw [hw2]; exact (bel2 _ _ _).1
  have hz2 : w2.heap.size = g1 + 2 := by rw [hw2, hg1]; simp
  have hk1 : w2.heap[g1]? = some (.cells #[.int .i64 1, .int .i64 1] 28) := by rw [hw2, hg1]; exact (heapOld _ _ _ (by simp)).trans (heap_alloc_new _ _)
  have hk2 : w2.heap[g1 + 1]? = some (.cells #[.int .i64 2, .int .i64 2] 28) := by
    rw [hw2, hg1]
    have := heap_alloc_new (w1.alloc (.cells #[.int .i64 1, .int .i64 1] 28)) (.cells #[.int .i64 2, .int .i64 2] 28)
    rwa [World.size_alloc] at this
  rw [← hw2, ← hg1]
  obtain ⟨Z, hZ⟩ : ∃ Z : Nat → Prop, Z = fun b => w.heap.size ≤ b ∧ b < w1.heap.size := ⟨_, rfl⟩
  have hR2 : RgM w2 p 0 [] Z := by rw [hZ]; exact H1.out.1.below hb2
  have hZl : ∀ b, Z b → w.heap.size ≤ b ∧ b < g1 := fun b hb => by rw [hZ] at hb; rw [hg1]; exact hb
  have hbw2 : Below w.heap.size w w2 := H1.out.2.trans (hb2.mono H1.out.2.size)
  obtain ⟨Zr, hZr⟩ : ∃ Zr : Nat → Prop, Zr = fun b => Z b ∨ w2.heap.size ≤ b := ⟨_, rfl⟩
  have hbx : ∀ wx, KeepZ Zr w2 wx → wx.rangeAt g1 0 (Ik.cs ⟨1, 1⟩) ∧ wx.rangeAt (g1 + 1) 0 (Ik.cs ⟨2, 2⟩) := fun wx hx => by
    have n1 : ¬ Zr g1 := by rw [hZr]; rintro (h | h); have := hZl _ h; omega; omega
    have n2 : ¬ Zr (g1 + 1) := by rw [hZr]; rintro (h | h); have := hZl _ h; omega; omega
    exact ⟨ik_range ((hx.block g1 (by omega) n1).trans hk1), ik_range ((hx.block (g1 + 1) (by omega) n2).trans hk2)⟩
  -- Put, three times
  have hp1 : ∀ wx, Below w2.heap.size w2 wx → Calls Tryz.prog 13 #[.pointer (some ⟨p, 0, none⟩), .agg (wrA aw1 none 0 none 0)] wx fun e w' => e = .returned (.int .i64 0) ∧ RgM w' p 1 [aw1] (fun b => w.heap.size ≤ b ∧ b < w'.heap.size ∧ b ≠ g1 ∧ b ≠ g1 + 1) ∧ KeepZ Zr w2 w' := fun wx hx => by
    refine (put_c (hR2.below hx) (by decide) (by decide) aw1 none 0 none 0 (aw_in1 wx wx.heap.size) (Nat.le_refl _)).mono ?_
    rintro e w' ⟨rfl, h2, h3⟩
    rw [aw_put1] at h2 ⊢
    have hs := hx.size
    have hs3 := h3.size
    refine ⟨rfl, h2.zone (fun b hb => hb.elim (fun hb => ⟨(hZl b hb).1, by have := (hZl b hb).2; omega, by have := (hZl b hb).2; omega, by have := (hZl b hb).2; omega⟩) (fun hb => ⟨by have := hbw2.size; omega, hb.2, by omega, by omega⟩)), ((KeepZ.of hx).trans (h3.mono (fun k hk => by rw [hZr]; exact .inl hk)))⟩
  have hp2 : ∀ (wx : World) (n gs : Nat), RgM wx p n [aw1] (fun b => w.heap.size ≤ b ∧ b < wx.heap.size ∧ b ≠ g1 ∧ b ≠ g1 + 1) → n < 10 → KeepZ Zr w2 wx → wx.heap[gs]? = some (.cells (Ik.cs ⟨1, 1⟩).toArray 28) → Calls Tryz.prog 13 #[.pointer (some ⟨p, 0, none⟩), .agg (wrA aw2 none 0 (some ⟨gs, 0, none⟩) 1)] wx fun e w' => e = .returned (.int .i64 0) ∧ RgM w' p (n + 1) [aw1, aw2] (fun b => w.heap.size ≤ b ∧ b < w'.heap.size ∧ b ≠ g1 ∧ b ≠ g1 + 1) ∧ KeepZ (fun b => w.heap.size ≤ b ∧ b ≠ g1 ∧ b ≠ g1 + 1) wx w' := fun wx n gs hr hn hk hgs => by
    refine (put_c hr (by omega) (by decide) aw2 none 0 (some ⟨gs, 0, none⟩) 1 (aw_in2 hgs (Array.getElem?_eq_some_iff.1 hgs).1) (Nat.le_refl _)).mono ?_
    rintro e w' ⟨rfl, h2, h3⟩
    rw [aw_put2] at h2 ⊢
    have hs := hk.size
    have hs3 := h3.size
    have hsw := hbw2.size
    exact ⟨rfl, h2.zone (fun b hb => hb.elim (fun hb => ⟨hb.1, by have := hb.2.1; omega, hb.2.2⟩) (fun hb => ⟨by omega, hb.2, by omega, by omega⟩)), h3.mono (fun k hk => ⟨hk.1, hk.2.2⟩)⟩
  have hp3 : ∀ (wx : World) (n : Nat), RgM wx p n [aw1, aw2] (fun b => w.heap.size ≤ b ∧ b < wx.heap.size ∧ b ≠ g1 ∧ b ≠ g1 + 1) → n < 10 → Calls Tryz.prog 13 #[.pointer (some ⟨p, 0, none⟩), .agg (wrA aw3 none 0 none 0)] wx fun e w' => e = .returned (.int .i64 4) ∧ RgM w' p (n + 1) [aw1, aw2] (fun b => w.heap.size ≤ b) ∧ KeepZ (fun b => w.heap.size ≤ b ∧ b ≠ g1 ∧ b ≠ g1 + 1) wx w' := fun wx n hr hn => by
    have hsw := hbw2.size
    refine (put_c hr (by omega) (by decide) aw3 none 0 none 0 (aw_in3 wx wx.heap.size) (Nat.le_refl _)).mono ?_
    rintro e w' ⟨rfl, h2, h3⟩
    rw [aw_put3] at h2 ⊢
    have hp : w.heap.size ≤ wx.heap.size := by obtain ⟨b, D, T, h1, -, hz, -⟩ := hr; have := (Array.getElem?_eq_some_iff.1 h1.1).1; have := hz.1; omega
    exact ⟨rfl, h2.zone (fun b hb => hb.elim (fun hb => hb.1) (fun hb => by omega)), h3.mono (fun k hk => ⟨hk.1, hk.2.2⟩)⟩
  have HBX := Lib.hid hbx
  have HP1 := Lib.hid hp1
  have HP2 := Lib.hid hp2
  have HP3 := Lib.hid hp3
  have HW2 := Lib.hid hw2
  have HG1 := Lib.hid hg1
  have HB2 := Lib.hid (And.intro hbw2 (And.intro hz2 (And.intro hZl hZr)))
  have hzr : ∀ wx wy, KeepZ Zr w2 wx → KeepZ (fun b => w.heap.size ≤ b ∧ b ≠ g1 ∧ b ≠ g1 + 1) wx wy → (∀ b, b < w2.heap.size → (w.heap.size ≤ b ∧ b ≠ g1 ∧ b ≠ g1 + 1) → Zr b) := fun wx wy _ _ b hb h => by
    rw [hZr]
    by_cases hz : b < g1
    · exact .inl (by rw [hZ]; exact ⟨h.1, by rw [← hg1]; exact hz⟩)
    · omega
  have hkz : ∀ wx wy, KeepZ Zr w2 wx → KeepZ (fun b => w.heap.size ≤ b ∧ b ≠ g1 ∧ b ≠ g1 + 1) wx wy → KeepZ Zr w2 wy := fun wx wy h h' => ⟨h'.os.trans h.os, h'.tape.trans h.tape, h'.output.trans h.output, Nat.le_trans h.size h'.size, fun k hk hn => (h'.block k (Nat.lt_of_lt_of_le hk h.size) (fun e => hn (hzr wx wy h h' k hk e))).trans (h.block k hk hn)⟩
  have HKZ := Lib.hid hkz
  clear hbx hp1 hp2 hp3 hw2 hg1 hb2 hz2 hk1 hk2 hR2 hZl hbw2 hZ hZr hzr hkz
  refine wp_region_held_drew (S := fun wx => KeepZ Zr w2 wx) (by kernel_rfl) (KeepZ.of (Below.refl _ _).drew) (fun hHeld => ?_)
  obtain ⟨wa, hwa⟩ : ∃ x, x = w2.drew := ⟨_, rfl⟩
  have hba : Below w2.heap.size w2 wa := by rw [hwa]; exact (Below.refl _ _).drew
  rw [← hwa] at hHeld ⊢
  have HWA := Lib.hid hba
  clear hwa hba
  refine wpAnyH_take (i := 0) (v := (.pointer (some ⟨p, 0, none⟩))) rfl (by kernel_rfl) (by kernel_rfl) (by kernel_rfl) (fun _ _ _ h => h) (Or.inl ⟨by kernel_rfl, fun _ hS => by kernel_rfl⟩) hHeld ?_
  (try simp only [Act.put, List.getElem_toArray, List.getElem_cons_succ, List.getElem_cons_zero, List.setIfInBounds_toArray, List.set_cons_zero, List.set_cons_succ])
  refine wpAnyH_take (i := 1) (v := (.bool false)) rfl (by kernel_rfl) (by kernel_rfl) (by kernel_rfl) (fun _ _ _ h => h) (Or.inl ⟨by kernel_rfl, fun _ hS => by kernel_rfl⟩) hHeld ?_
  (try simp only [Act.put, List.getElem_toArray, List.getElem_cons_succ, List.getElem_cons_zero, List.setIfInBounds_toArray, List.set_cons_zero, List.set_cons_succ])
  refine wpAnyH_take (i := 2) (v := (.bool false)) rfl (by kernel_rfl) (by kernel_rfl) (by kernel_rfl) (fun _ _ _ h => h) (Or.inl ⟨by kernel_rfl, fun _ hS => by kernel_rfl⟩) hHeld ?_
  (try simp only [Act.put, List.getElem_toArray, List.getElem_cons_succ, List.getElem_cons_zero, List.setIfInBounds_toArray, List.set_cons_zero, List.set_cons_succ])
  refine wpAnyH_take (i := 3) (v := (.pointer (some ⟨p, 0, none⟩))) rfl (by kernel_rfl) (by kernel_rfl) (by kernel_rfl) (fun _ _ _ h => h) (Or.inl ⟨by kernel_rfl, fun _ hS => by kernel_rfl⟩) hHeld ?_
  (try simp only [Act.put, List.getElem_toArray, List.getElem_cons_succ, List.getElem_cons_zero, List.setIfInBounds_toArray, List.set_cons_zero, List.set_cons_succ])
  refine wpAnyH_take (i := 4) (v := .agg (Ik.cs ⟨1, 1⟩).toArray) rfl (by kernel_rfl) (by kernel_rfl) (by kernel_rfl) (fun _ _ _ h => h) (yieldsIf_load_mid (by kernel_rfl) 28 _ rfl g1 0 rfl (Ik.cs ⟨1, 1⟩) _ (fun _ hS => (HBX.out _ hS).1) ikUnd rfl (HIK.out _)) hHeld ?_
  (try simp only [Act.put, List.getElem_toArray, List.getElem_cons_succ, List.getElem_cons_zero, List.setIfInBounds_toArray, List.set_cons_zero, List.set_cons_succ])
  refine wpAnyH_ready (rs := [5]) (by kernel_rfl) (by simp) ?_
  refine AllReadyH.cons rfl (fun K hK => ?_) AllReadyH.nil
  go_simp
  refine (HFV.out _).mono ?_
  rintro e w3 ⟨rfl, hb3⟩
  try go_simp
  have hS3 : KeepZ Zr w2 w3 := hHeld.trans (KeepZ.of hb3)
  have HB3 := Lib.hid (HWA.out.trans (hb3.mono HWA.out.size))
  clear hb3
  refine hK.out _ _ hS3 (fun hHeld1 => ?_)
  clear hK K hHeld hS3
  have hHeld := hHeld1
  clear hHeld1
  (try simp only [Act.put, List.getElem_toArray, List.getElem_cons_succ, List.getElem_cons_zero, List.setIfInBounds_toArray, List.set_cons_zero, List.set_cons_succ])
  refine wpAnyH_take (i := 6) (v := (.agg (wrA aw1 none 0 none 0))) rfl (by kernel_rfl) (by kernel_rfl) (by kernel_rfl) (fun _ _ _ h => h) (Or.inl ⟨by kernel_rfl, fun _ hS => by kernel_rfl⟩) hHeld ?_
  (try simp only [Act.put, List.getElem_toArray, List.getElem_cons_succ, List.getElem_cons_zero, List.setIfInBounds_toArray, List.set_cons_zero, List.set_cons_succ])
  refine wpAnyH_ready (rs := [7]) (by kernel_rfl) (by simp) ?_
  refine AllReadyH.cons rfl (fun K hK => ?_) AllReadyH.nil
  go_simp
  refine (HP1.out w3 HB3.out).mono ?_
  rintro e w4 ⟨rfl, hr4, hS4⟩
  try go_simp
  have HR4 := Lib.hid hr4
  clear hr4
  refine hK.out _ _ hS4 (fun hHeld1 => ?_)
  clear hK K hHeld hS4
  have hHeld := hHeld1
  clear hHeld1
  (try simp only [Act.put, List.getElem_toArray, List.getElem_cons_succ, List.getElem_cons_zero, List.setIfInBounds_toArray, List.set_cons_zero, List.set_cons_succ])
  refine wpAnyH_take (i := 8) (v := (.bool false)) rfl (by kernel_rfl) (by kernel_rfl) (by kernel_rfl) (fun _ _ _ h => h) (Or.inl ⟨by kernel_rfl, fun _ hS => by kernel_rfl⟩) hHeld ?_
  (try simp only [Act.put, List.getElem_toArray, List.getElem_cons_succ, List.getElem_cons_zero, List.setIfInBounds_toArray, List.set_cons_zero, List.set_cons_succ])
  refine wpAnyH_take (i := 9) (v := (.bool false)) rfl (by kernel_rfl) (by kernel_rfl) (by kernel_rfl) (fun _ _ _ h => h) (Or.inl ⟨by kernel_rfl, fun _ hS => by kernel_rfl⟩) hHeld ?_
  (try simp only [Act.put, List.getElem_toArray, List.getElem_cons_succ, List.getElem_cons_zero, List.setIfInBounds_toArray, List.set_cons_zero, List.set_cons_succ])
  refine wpAnyH_take (i := 10) (v := (.bool false)) rfl (by kernel_rfl) (by kernel_rfl) (by kernel_rfl) (fun _ _ _ h => h) (Or.inl ⟨by kernel_rfl, fun _ hS => by kernel_rfl⟩) hHeld ?_
  (try simp only [Act.put, List.getElem_toArray, List.getElem_cons_succ, List.getElem_cons_zero, List.setIfInBounds_toArray, List.set_cons_zero, List.set_cons_succ])
  refine wpAnyH_take (i := 11) (v := (.pointer (some ⟨p, 0, none⟩))) rfl (by kernel_rfl) (by kernel_rfl) (by kernel_rfl) (fun _ _ _ h => h) (Or.inl ⟨by kernel_rfl, fun _ hS => by kernel_rfl⟩) hHeld ?_
  (try simp only [Act.put, List.getElem_toArray, List.getElem_cons_succ, List.getElem_cons_zero, List.setIfInBounds_toArray, List.set_cons_zero, List.set_cons_succ])
  refine wpAnyH_take (i := 12) (v := .agg (Ik.cs ⟨2, 2⟩).toArray) rfl (by kernel_rfl) (by kernel_rfl) (by kernel_rfl) (fun _ _ _ h => h) (yieldsIf_load_mid (by kernel_rfl) 28 _ rfl (g1 + 1) 0 rfl (Ik.cs ⟨2, 2⟩) _ (fun _ hS => (HBX.out _ hS).2) ikUnd rfl (HIK.out _)) hHeld ?_
  (try simp only [Act.put, List.getElem_toArray, List.getElem_cons_succ, List.getElem_cons_zero, List.setIfInBounds_toArray, List.set_cons_zero, List.set_cons_succ])
  refine wpAnyH_take (i := 13) (v := .agg (Ik.cs ⟨1, 1⟩).toArray) rfl (by kernel_rfl) (by kernel_rfl) (by kernel_rfl) (fun _ _ _ h => h) (yieldsIf_load_mid (by kernel_rfl) 28 _ rfl g1 0 rfl (Ik.cs ⟨1, 1⟩) _ (fun _ hS => (HBX.out _ hS).1) ikUnd rfl (HIK.out _)) hHeld ?_
  (try simp only [Act.put, List.getElem_toArray, List.getElem_cons_succ, List.getElem_cons_zero, List.setIfInBounds_toArray, List.set_cons_zero, List.set_cons_succ])
  refine wpAnyH_ready (rs := [14]) (by kernel_rfl) (by simp) ?_
  refine AllReadyH.cons rfl (fun K hK => ?_) AllReadyH.nil
  refine step_oneId (by kernel_rfl) 24 rfl (Ik.cs ⟨1, 1⟩).toArray rfl rfl ?_
  obtain ⟨w5, hw5⟩ : ∃ x, x = w4.alloc (.cells (Ik.cs ⟨1, 1⟩).toArray 28) := ⟨_, rfl⟩
  obtain ⟨gs, hgs⟩ : ∃ g, g = w4.heap.size := ⟨_, rfl⟩
  rw [← hw5, ← hgs]
  have hb5 : Below w4.heap.size w4 w5 := by rw [hw5]; exact (bel1 _ _).1
  have hk5 : w5.heap[gs]? = some (.cells (Ik.cs ⟨1, 1⟩).toArray 28) := by rw [hw5, hgs]; exact heap_alloc_new _ _
  have hS5 : KeepZ Zr w2 w5 := hHeld.trans (KeepZ.of hb5)
  have HR5 := Lib.hid (And.intro ((HR4.out.below hb5).zone (Z' := fun b => w.heap.size ≤ b ∧ b < w5.heap.size ∧ b ≠ g1 ∧ b ≠ g1 + 1) (fun b hb => ⟨hb.1, Nat.lt_of_lt_of_le hb.2.1 hb5.size, hb.2.2⟩)) hk5)
  clear hw5 hgs hb5 hk5
  refine hK.out _ _ hS5 (fun hHeld1 => ?_)
  clear hK K hHeld hS5
  have hHeld := hHeld1
  clear hHeld1
  (try simp only [Act.put, List.getElem_toArray, List.getElem_cons_succ, List.getElem_cons_zero, List.setIfInBounds_toArray, List.set_cons_zero, List.set_cons_succ])
  refine wpAnyH_take (i := 15) (v := (.agg (wrA aw2 none 0 (some ⟨gs, 0, none⟩) 1))) rfl (by kernel_rfl) (by kernel_rfl) (by kernel_rfl) (fun _ _ _ h => h) (Or.inl ⟨by kernel_rfl, fun _ hS => by kernel_rfl⟩) hHeld ?_
  (try simp only [Act.put, List.getElem_toArray, List.getElem_cons_succ, List.getElem_cons_zero, List.setIfInBounds_toArray, List.set_cons_zero, List.set_cons_succ])
  refine wpAnyH_ready (rs := [16]) (by kernel_rfl) (by simp) ?_
  refine AllReadyH.cons rfl (fun K hK => ?_) AllReadyH.nil
  go_simp
  refine (HP2.out w5 1 gs HR5.out.1 (by decide) hHeld HR5.out.2).mono ?_
  rintro e w6 ⟨rfl, hr6, hk6⟩
  try go_simp
  have hS6 : KeepZ Zr w2 w6 := HKZ.out _ _ hHeld hk6
  have HR6 := Lib.hid hr6
  clear hr6 hk6
  refine hK.out _ _ hS6 (fun hHeld1 => ?_)
  clear hK K hHeld hS6
  have hHeld := hHeld1
  clear hHeld1
  (try simp only [Act.put, List.getElem_toArray, List.getElem_cons_succ, List.getElem_cons_zero, List.setIfInBounds_toArray, List.set_cons_zero, List.set_cons_succ])
  refine wpAnyH_take (i := 17) (v := (.bool false)) rfl (by kernel_rfl) (by kernel_rfl) (by kernel_rfl) (fun _ _ _ h => h) (Or.inl ⟨by kernel_rfl, fun _ hS => by kernel_rfl⟩) hHeld ?_
  (try simp only [Act.put, List.getElem_toArray, List.getElem_cons_succ, List.getElem_cons_zero, List.setIfInBounds_toArray, List.set_cons_zero, List.set_cons_succ])
  refine wpAnyH_take (i := 18) (v := (.bool false)) rfl (by kernel_rfl) (by kernel_rfl) (by kernel_rfl) (fun _ _ _ h => h) (Or.inl ⟨by kernel_rfl, fun _ hS => by kernel_rfl⟩) hHeld ?_
  (try simp only [Act.put, List.getElem_toArray, List.getElem_cons_succ, List.getElem_cons_zero, List.setIfInBounds_toArray, List.set_cons_zero, List.set_cons_succ])
  refine wpAnyH_take (i := 19) (v := (.bool false)) rfl (by kernel_rfl) (by kernel_rfl) (by kernel_rfl) (fun _ _ _ h => h) (Or.inl ⟨by kernel_rfl, fun _ hS => by kernel_rfl⟩) hHeld ?_
  (try simp only [Act.put, List.getElem_toArray, List.getElem_cons_succ, List.getElem_cons_zero, List.setIfInBounds_toArray, List.set_cons_zero, List.set_cons_succ])
  refine wpAnyH_take (i := 20) (v := (.pointer (some ⟨p, 0, none⟩))) rfl (by kernel_rfl) (by kernel_rfl) (by kernel_rfl) (fun _ _ _ h => h) (Or.inl ⟨by kernel_rfl, fun _ hS => by kernel_rfl⟩) hHeld ?_
  (try simp only [Act.put, List.getElem_toArray, List.getElem_cons_succ, List.getElem_cons_zero, List.setIfInBounds_toArray, List.set_cons_zero, List.set_cons_succ])
  refine wpAnyH_take (i := 21) (v := .agg (Ik.cs ⟨2, 2⟩).toArray) rfl (by kernel_rfl) (by kernel_rfl) (by kernel_rfl) (fun _ _ _ h => h) (yieldsIf_load_mid (by kernel_rfl) 28 _ rfl (g1 + 1) 0 rfl (Ik.cs ⟨2, 2⟩) _ (fun _ hS => (HBX.out _ hS).2) ikUnd rfl (HIK.out _)) hHeld ?_
  (try simp only [Act.put, List.getElem_toArray, List.getElem_cons_succ, List.getElem_cons_zero, List.setIfInBounds_toArray, List.set_cons_zero, List.set_cons_succ])
  refine wpAnyH_take (i := 22) (v := (.agg (wrA aw3 none 0 none 0))) rfl (by kernel_rfl) (by kernel_rfl) (by kernel_rfl) (fun _ _ _ h => h) (Or.inl ⟨by kernel_rfl, fun _ hS => by kernel_rfl⟩) hHeld ?_
  (try simp only [Act.put, List.getElem_toArray, List.getElem_cons_succ, List.getElem_cons_zero, List.setIfInBounds_toArray, List.set_cons_zero, List.set_cons_succ])
  refine wpAnyH_ready (rs := [23]) (by kernel_rfl) (by simp) ?_
  refine AllReadyH.cons rfl (fun K hK => ?_) AllReadyH.nil
  go_simp
  refine (HP3.out w6 2 HR6.out (by decide)).mono ?_
  rintro e w7 ⟨rfl, hr7, hk7⟩
  try go_simp
  have hS7 : KeepZ Zr w2 w7 := HKZ.out _ _ hHeld hk7
  have HR7 := Lib.hid hr7
  clear hr7 hk7
  refine hK.out _ _ hS7 (fun hHeld1 => ?_)
  clear hK K hHeld hS7
  have hHeld := hHeld1
  clear hHeld1
  (try simp only [Act.put, List.getElem_toArray, List.getElem_cons_succ, List.getElem_cons_zero, List.setIfInBounds_toArray, List.set_cons_zero, List.set_cons_succ])
  refine wpAnyH_take (i := 24) (v := (.bool false)) rfl (by kernel_rfl) (by kernel_rfl) (by kernel_rfl) (fun _ _ _ h => h) (Or.inl ⟨by kernel_rfl, fun _ hS => by kernel_rfl⟩) hHeld ?_
  (try simp only [Act.put, List.getElem_toArray, List.getElem_cons_succ, List.getElem_cons_zero, List.setIfInBounds_toArray, List.set_cons_zero, List.set_cons_succ])
  refine wpAnyH_take (i := 25) (v := (.bool false)) rfl (by kernel_rfl) (by kernel_rfl) (by kernel_rfl) (fun _ _ _ h => h) (Or.inl ⟨by kernel_rfl, fun _ hS => by kernel_rfl⟩) hHeld ?_
  (try simp only [Act.put, List.getElem_toArray, List.getElem_cons_succ, List.getElem_cons_zero, List.setIfInBounds_toArray, List.set_cons_zero, List.set_cons_succ])
  have HS7 := Lib.hid hHeld
  refine wpAnyH_done (by kernel_rfl) ?_ _
  clear hHeld
  have hgn : Calls Tryz.prog 17 #[.pointer (some ⟨p, 0, none⟩), .nilFunc] w7 fun e w' => ∃ A c Ao co, e = .returned (.tuple #[.agg (contA zCt A c), .slice Ao 0 co]) ∧ Below w7.heap.size w7 w' := by
    refine (get_c HR7.out.z (by decide) .nilFunc _ (gone_nil w7)).mono ?_
    rw [aw_standN]
    rintro e w' ⟨A, c, Ao, co, rfl, -, -, hb⟩
    exact ⟨A, c, Ao, co, rfl, hb⟩
  have hgf : ∀ wx, Below w7.heap.size w7 wx → Calls Tryz.prog 17 #[.pointer (some ⟨p, 0, none⟩), .func (.func 23) #[] #[.pointer (some ⟨g1 + 1, 0, none⟩)]] wx fun e w' => ∃ A c Ao co, e = .returned (.tuple #[.agg (contA fiveC A c), .slice Ao 0 co]) ∧ SlAt w' w'.heap.size A c fiveC.t.l ∧ Below wx.heap.size wx w' := fun wx hx => by
    have hgv : GoneV wx (.func (.func 23) #[] #[.pointer (some ⟨g1 + 1, 0, none⟩)]) (fun x => decide (x = ⟨2, 2⟩)) := .inr ⟨_, _, rfl, enters_of Tryz.func23 (by kernel_rfl) rfl, fun wy x _ hz => awake1_c (HBX.out wy ((HS7.out.trans (KeepZ.of hx)).trans (hz.mono (fun _ h => h.elim)))).2 x⟩
    refine (get_c (HR7.out.below hx).z (by decide) _ _ hgv).mono ?_
    rw [aw_standG]
    rintro e w' ⟨A, c, Ao, co, rfl, hs, -, hb⟩
    exact ⟨A, c, Ao, co, rfl, hs.at_ (fun _ _ h => h.2), hb⟩
  have HGN := Lib.hid hgn
  have HGF := Lib.hid hgf
  have HIC := Lib.hid (show ∀ (x : Ct) (A : Option Addr) (c : Nat), (Tryz.prog.info? 37).map (·.size) = some (contA x A c).size ∧ (Tryz.prog.info? 37).map (·.size) = some (contA x A c).toList.length ∧ (contA zCt none 0).size = (contA x A c).size ∧ (contA x A c).all (·.oneCell') = true from fun x A c => ⟨infC, infC, rfl, cont_one _ _ _⟩)
  clear hgn hgf
  go_upto_region 6 with (first | (go_at_call 17; refine HGN.out.mono ?_; rintro e w8 ⟨A8, c8, Ao8, co8, rfl, hb8⟩; have HB8 := Lib.hid hb8; clear hb8; obtain ⟨CA, hCA⟩ : ∃ C, C = contA zCt A8 c8 := ⟨_, rfl⟩; have hia := HIC.out zCt A8 c8; rw [← hCA] at hia ⊢; have HCA := Lib.hid (And.intro hCA hia); clear hCA hia) | (refine wpList_contVar rfl rfl w8.heap.size rfl ?_) | (refine wpList_storeFresh (w := w8) rfl 37 _ _ rfl w8.heap.size rfl CA rfl rfl HCA.out.2.1 HCA.out.2.2.2.1 HCA.out.2.2.2.2 ?_) | fail)
  obtain ⟨w9, hw9⟩ : ∃ x, x = w8.alloc (.cells CA 37) := ⟨_, rfl⟩
  obtain ⟨g4, hg4⟩ : ∃ g, g = w8.heap.size := ⟨_, rfl⟩
  rw [← hw9, ← hg4]
  have hb9 : Below w8.heap.size w8 w9 := by rw [hw9]; exact (bel1 _ _).1
  have hk9 : w9.heap[g4]? = some (.cells CA 37) := by rw [hw9, hg4]; exact heap_alloc_new _ _
  have h79 : Below w7.heap.size w7 w9 := HB8.out.trans (hb9.mono HB8.out.size)
  have HG9 := Lib.hid (HGF.out w9 h79)
  have H9 := Lib.hid (And.intro hk9 h79)
  clear hw9 hg4 hb9 hk9 h79
  go_upto_region 7 with (first | (go_at_call 17; refine HG9.out.mono ?_; rintro e w10 ⟨A10, c10, Ao10, co10, rfl, hs10, hb10⟩; have HB10 := Lib.hid (And.intro hs10 hb10); clear hs10 hb10; obtain ⟨CB, hCB⟩ : ∃ C, C = contA fiveC A10 c10 := ⟨_, rfl⟩; have hia := HIC.out fiveC A10 c10; rw [← hCB] at hia ⊢; have HCB := Lib.hid (And.intro hCB hia); clear hCB hia) | (refine wpList_contVar rfl rfl w10.heap.size rfl ?_) | (refine wpList_storeFresh (w := w10) rfl 37 _ _ rfl w10.heap.size rfl CB rfl rfl HCB.out.2.1 HCB.out.2.2.2.1 HCB.out.2.2.2.2 ?_) | fail)
  obtain ⟨w11, hw11⟩ : ∃ x, x = w10.alloc (.cells CB 37) := ⟨_, rfl⟩
  obtain ⟨g6, hg6⟩ : ∃ g, g = w10.heap.size := ⟨_, rfl⟩
  rw [← hw11, ← hg6]
  have hb11 : Below w10.heap.size w10 w11 := by rw [hw11]; exact (bel1 _ _).1
  have hk11 : w11.heap[g6]? = some (.cells CB 37) := by rw [hw11, hg6]; exact heap_alloc_new _ _
  have h9b := HB10.out.2.trans (hb11.mono HB10.out.2.size)
  have h711 : Below w7.heap.size w7 w11 := H9.out.2.trans (h9b.mono H9.out.2.size)
  have hc4 : ∀ wx, Below w11.heap.size w11 wx → wx.cell? ⟨g4, 0, none⟩ = some (.int .i64 0) := fun wx hx => by
    have e := ((hx.block g4 (by have := (Array.getElem?_eq_some_iff.1 H9.out.1).1; have := h9b.size; omega)).trans (h9b.block g4 (Array.getElem?_eq_some_iff.1 H9.out.1).1)).trans H9.out.1
    rw [cell_of_row _ _ 0 _ _ _ e, HCA.out.1]; rfl
  have hr6 : ∀ wx, Below w11.heap.size w11 wx → wx.rangeAt g6 0 CB.toList := fun wx hx => row_range_ ((hx.block g6 (Array.getElem?_eq_some_iff.1 hk11).1).trans hk11) _ _ (fun j v hv => by rw [Nat.zero_add, ← Array.getElem?_toList]; exact hv)
  have hsm : ∀ wx, Below w11.heap.size w11 wx → Calls Tryz.prog 18 #[.agg CB, contV fiveC none 0] wx fun e w' => e = .returned (.bool true) ∧ Below wx.heap.size wx w' := fun wx hx => by
    rw [HCB.out.1]
    have := rcsame_c fiveC fiveC wx wx.heap.size A10 none c10 0 zNd_ok (((HB10.out.1.below hb11).below (hx.mono hb11.size)).more (Nat.le_trans hb11.size hx.size)) zNd_ok (slAt_nil _ _) (Nat.le_refl _)
    rwa [sameC_self] at this
  have hid : ∀ wx, Below w11.heap.size w11 wx → Calls Tryz.prog 14 #[.pointer (some ⟨p, 0, none⟩)] wx fun e w' => ∃ A c, e = .returned (.slice A 2 c) ∧ Below wx.heap.size wx w' := fun wx hx => by
    refine (ids_c (HR7.out.below (h711.trans (hx.mono h711.size))).z (by decide)).mono ?_
    rintro e w' ⟨A, c, rfl, hb, -⟩
    exact ⟨A, c, rfl, hb⟩
  have HC4 := Lib.hid hc4
  have HR6 := Lib.hid hr6
  have HSM := Lib.hid hsm
  have HID := Lib.hid hid
  have H711 := Lib.hid h711
  clear hw11 hg6 hb11 hk11 h9b h711 hc4 hr6 hsm hid
  refine wp_region_held_drew (S := fun wx => Below w11.heap.size w11 wx) (by kernel_rfl) (Below.refl _ _).drew (fun hHeld => ?_)
  obtain ⟨wa, hwa⟩ : ∃ x, x = w11.drew := ⟨_, rfl⟩
  rw [← hwa] at hHeld ⊢
  clear hwa
  refine wpAnyH_take (i := 0) (v := (.pointer (some ⟨g4, 0, none⟩))) rfl (by kernel_rfl) (by kernel_rfl) (by kernel_rfl) (fun _ _ _ h => h) (Or.inl ⟨by kernel_rfl, fun _ hS => by kernel_rfl⟩) hHeld ?_
  (try simp only [Act.put, List.getElem_toArray, List.getElem_cons_succ, List.getElem_cons_zero, List.setIfInBounds_toArray, List.set_cons_zero, List.set_cons_succ])
  refine wpAnyH_take (i := 1) (v := (.int .i64 0)) rfl (by kernel_rfl) (by kernel_rfl) (by kernel_rfl) (fun _ _ _ h => h) (Or.inl ⟨by kernel_rfl, fun _ hS => ldI1_run _ rfl ⟨g4, 0, none⟩ rfl _ (HC4.out _ hS)⟩) hHeld ?_
  (try simp only [Act.put, List.getElem_toArray, List.getElem_cons_succ, List.getElem_cons_zero, List.setIfInBounds_toArray, List.set_cons_zero, List.set_cons_succ])
  refine wpAnyH_take (i := 2) (v := (.bool true)) rfl (by kernel_rfl) (by kernel_rfl) (by kernel_rfl) (fun _ _ _ h => h) (Or.inl ⟨by kernel_rfl, fun _ hS => by kernel_rfl⟩) hHeld ?_
  (try simp only [Act.put, List.getElem_toArray, List.getElem_cons_succ, List.getElem_cons_zero, List.setIfInBounds_toArray, List.set_cons_zero, List.set_cons_succ])
  refine wpAnyH_take (i := 3) (v := (.bool true)) rfl (by kernel_rfl) (by kernel_rfl) (by kernel_rfl) (fun _ _ _ h => h) (Or.inl ⟨by kernel_rfl, fun _ hS => by kernel_rfl⟩) hHeld ?_
  (try simp only [Act.put, List.getElem_toArray, List.getElem_cons_succ, List.getElem_cons_zero, List.setIfInBounds_toArray, List.set_cons_zero, List.set_cons_succ])
  refine wpAnyH_take (i := 4) (v := (.slice Ao8 0 co8)) rfl (by kernel_rfl) (by kernel_rfl) (by kernel_rfl) (fun _ _ _ h => h) (Or.inl ⟨by kernel_rfl, fun _ hS => by kernel_rfl⟩) hHeld ?_
  (try simp only [Act.put, List.getElem_toArray, List.getElem_cons_succ, List.getElem_cons_zero, List.setIfInBounds_toArray, List.set_cons_zero, List.set_cons_succ])
  refine wpAnyH_take (i := 5) (v := (.int .i64 0)) rfl (by kernel_rfl) (by kernel_rfl) (by kernel_rfl) (fun _ _ _ h => h) (Or.inl ⟨by kernel_rfl, fun _ hS => by kernel_rfl⟩) hHeld ?_
  (try simp only [Act.put, List.getElem_toArray, List.getElem_cons_succ, List.getElem_cons_zero, List.setIfInBounds_toArray, List.set_cons_zero, List.set_cons_succ])
  refine wpAnyH_take (i := 6) (v := (.bool true)) rfl (by kernel_rfl) (by kernel_rfl) (by kernel_rfl) (fun _ _ _ h => h) (Or.inl ⟨by kernel_rfl, fun _ hS => by kernel_rfl⟩) hHeld ?_
  (try simp only [Act.put, List.getElem_toArray, List.getElem_cons_succ, List.getElem_cons_zero, List.setIfInBounds_toArray, List.set_cons_zero, List.set_cons_succ])
  refine wpAnyH_take (i := 7) (v := (.bool true)) rfl (by kernel_rfl) (by kernel_rfl) (by kernel_rfl) (fun _ _ _ h => h) (Or.inl ⟨by kernel_rfl, fun _ hS => by kernel_rfl⟩) hHeld ?_
  (try simp only [Act.put, List.getElem_toArray, List.getElem_cons_succ, List.getElem_cons_zero, List.setIfInBounds_toArray, List.set_cons_zero, List.set_cons_succ])
  refine wpAnyH_take (i := 8) (v := (.bool true)) rfl (by kernel_rfl) (by kernel_rfl) (by kernel_rfl) (fun _ _ _ h => h) (Or.inl ⟨by kernel_rfl, fun _ hS => by kernel_rfl⟩) hHeld ?_
  (try simp only [Act.put, List.getElem_toArray, List.getElem_cons_succ, List.getElem_cons_zero, List.setIfInBounds_toArray, List.set_cons_zero, List.set_cons_succ])
  refine wpAnyH_take (i := 9) (v := .agg CB.toList.toArray) rfl (by kernel_rfl) (by kernel_rfl) (by kernel_rfl) (fun _ _ _ h => h) (yieldsIf_load_mid (by kernel_rfl) 37 _ rfl g6 0 rfl CB.toList _ (fun _ hS => HR6.out _ hS) undC rfl HCB.out.2.2.1) hHeld ?_
  (try simp only [Act.put, List.getElem_toArray, List.getElem_cons_succ, List.getElem_cons_zero, List.setIfInBounds_toArray, List.set_cons_zero, List.set_cons_succ])
  simp only [Array.toArray_toList]
  refine wpAnyH_ready (rs := [10]) (by kernel_rfl) (by simp) ?_
  refine AllReadyH.cons rfl (fun K hK => ?_) AllReadyH.nil
  go_simp
  refine (HFV.out _).mono ?_
  rintro e w12 ⟨rfl, hb12⟩
  try go_simp
  have hS12 : Below w11.heap.size w11 w12 := hHeld.trans (hb12.mono hHeld.size)
  clear hb12
  refine hK.out _ _ hS12 (fun hHeld1 => ?_)
  clear hK K hHeld hS12
  have hHeld := hHeld1
  clear hHeld1
  (try simp only [Act.put, List.getElem_toArray, List.getElem_cons_succ, List.getElem_cons_zero, List.setIfInBounds_toArray, List.set_cons_zero, List.set_cons_succ])
  refine wpAnyH_ready (rs := [11]) (by kernel_rfl) (by simp) ?_
  refine AllReadyH.cons rfl (fun K hK => ?_) AllReadyH.nil
  go_simp
  refine (HSM.out _ hHeld).mono ?_
  rintro e w13 ⟨rfl, hb13⟩
  try go_simp
  have hS13 : Below w11.heap.size w11 w13 := hHeld.trans (hb13.mono hHeld.size)
  clear hb13
  refine hK.out _ _ hS13 (fun hHeld1 => ?_)
  clear hK K hHeld hS13
  have hHeld := hHeld1
  clear hHeld1
  (try simp only [Act.put, List.getElem_toArray, List.getElem_cons_succ, List.getElem_cons_zero, List.setIfInBounds_toArray, List.set_cons_zero, List.set_cons_succ])
  refine wpAnyH_take (i := 12) (v := (.bool true)) rfl (by kernel_rfl) (by kernel_rfl) (by kernel_rfl) (fun _ _ _ h => h) (Or.inl ⟨by kernel_rfl, fun _ hS => by kernel_rfl⟩) hHeld ?_
  (try simp only [Act.put, List.getElem_toArray, List.getElem_cons_succ, List.getElem_cons_zero, List.setIfInBounds_toArray, List.set_cons_zero, List.set_cons_succ])
  refine wpAnyH_take (i := 13) (v := (.bool true)) rfl (by kernel_rfl) (by kernel_rfl) (by kernel_rfl) (fun _ _ _ h => h) (Or.inl ⟨by kernel_rfl, fun _ hS => by kernel_rfl⟩) hHeld ?_
  (try simp only [Act.put, List.getElem_toArray, List.getElem_cons_succ, List.getElem_cons_zero, List.setIfInBounds_toArray, List.set_cons_zero, List.set_cons_succ])
  refine wpAnyH_take (i := 14) (v := (.slice Ao10 0 co10)) rfl (by kernel_rfl) (by kernel_rfl) (by kernel_rfl) (fun _ _ _ h => h) (Or.inl ⟨by kernel_rfl, fun _ hS => by kernel_rfl⟩) hHeld ?_
  (try simp only [Act.put, List.getElem_toArray, List.getElem_cons_succ, List.getElem_cons_zero, List.setIfInBounds_toArray, List.set_cons_zero, List.set_cons_succ])
  refine wpAnyH_take (i := 15) (v := (.int .i64 0)) rfl (by kernel_rfl) (by kernel_rfl) (by kernel_rfl) (fun _ _ _ h => h) (Or.inl ⟨by kernel_rfl, fun _ hS => by kernel_rfl⟩) hHeld ?_
  (try simp only [Act.put, List.getElem_toArray, List.getElem_cons_succ, List.getElem_cons_zero, List.setIfInBounds_toArray, List.set_cons_zero, List.set_cons_succ])
  refine wpAnyH_take (i := 16) (v := (.bool true)) rfl (by kernel_rfl) (by kernel_rfl) (by kernel_rfl) (fun _ _ _ h => h) (Or.inl ⟨by kernel_rfl, fun _ hS => by kernel_rfl⟩) hHeld ?_
  (try simp only [Act.put, List.getElem_toArray, List.getElem_cons_succ, List.getElem_cons_zero, List.setIfInBounds_toArray, List.set_cons_zero, List.set_cons_succ])
  refine wpAnyH_take (i := 17) (v := (.bool true)) rfl (by kernel_rfl) (by kernel_rfl) (by kernel_rfl) (fun _ _ _ h => h) (Or.inl ⟨by kernel_rfl, fun _ hS => by kernel_rfl⟩) hHeld ?_
  (try simp only [Act.put, List.getElem_toArray, List.getElem_cons_succ, List.getElem_cons_zero, List.setIfInBounds_toArray, List.set_cons_zero, List.set_cons_succ])
  refine wpAnyH_take (i := 18) (v := (.bool true)) rfl (by kernel_rfl) (by kernel_rfl) (by kernel_rfl) (fun _ _ _ h => h) (Or.inl ⟨by kernel_rfl, fun _ hS => by kernel_rfl⟩) hHeld ?_
  (try simp only [Act.put, List.getElem_toArray, List.getElem_cons_succ, List.getElem_cons_zero, List.setIfInBounds_toArray, List.set_cons_zero, List.set_cons_succ])
  refine wpAnyH_take (i := 19) (v := (.pointer (some ⟨p, 0, none⟩))) rfl (by kernel_rfl) (by kernel_rfl) (by kernel_rfl) (fun _ _ _ h => h) (Or.inl ⟨by kernel_rfl, fun _ hS => by kernel_rfl⟩) hHeld ?_
  (try simp only [Act.put, List.getElem_toArray, List.getElem_cons_succ, List.getElem_cons_zero, List.setIfInBounds_toArray, List.set_cons_zero, List.set_cons_succ])
  refine wpAnyH_ready (rs := [20]) (by kernel_rfl) (by simp) ?_
  refine AllReadyH.cons rfl (fun K hK => ?_) AllReadyH.nil
  go_simp
  refine (HID.out _ hHeld).mono ?_
  rintro e w14 ⟨A14, c14, rfl, hb14⟩
  try go_simp
  have hS14 : Below w11.heap.size w11 w14 := hHeld.trans (hb14.mono hHeld.size)
  clear hb14
  refine hK.out _ _ hS14 (fun hHeld1 => ?_)
  clear hK K hHeld hS14
  have hHeld := hHeld1
  clear hHeld1
  (try simp only [Act.put, List.getElem_toArray, List.getElem_cons_succ, List.getElem_cons_zero, List.setIfInBounds_toArray, List.set_cons_zero, List.set_cons_succ])
  refine wpAnyH_take (i := 21) (v := (.int .i64 2)) rfl (by kernel_rfl) (by kernel_rfl) (by kernel_rfl) (fun _ _ _ h => h) (Or.inl ⟨by kernel_rfl, fun _ hS => by kernel_rfl⟩) hHeld ?_
  (try simp only [Act.put, List.getElem_toArray, List.getElem_cons_succ, List.getElem_cons_zero, List.setIfInBounds_toArray, List.set_cons_zero, List.set_cons_succ])
  refine wpAnyH_take (i := 22) (v := (.bool true)) rfl (by kernel_rfl) (by kernel_rfl) (by kernel_rfl) (fun _ _ _ h => h) (Or.inl ⟨by kernel_rfl, fun _ hS => by kernel_rfl⟩) hHeld ?_
  (try simp only [Act.put, List.getElem_toArray, List.getElem_cons_succ, List.getElem_cons_zero, List.setIfInBounds_toArray, List.set_cons_zero, List.set_cons_succ])
  refine wpAnyH_take (i := 23) (v := (.bool true)) rfl (by kernel_rfl) (by kernel_rfl) (by kernel_rfl) (fun _ _ _ h => h) (Or.inl ⟨by kernel_rfl, fun _ hS => by kernel_rfl⟩) hHeld ?_
  (try simp only [Act.put, List.getElem_toArray, List.getElem_cons_succ, List.getElem_cons_zero, List.setIfInBounds_toArray, List.set_cons_zero, List.set_cons_succ])
  refine wpAnyH_take (i := 24) (v := (.bool true)) rfl (by kernel_rfl) (by kernel_rfl) (by kernel_rfl) (fun _ _ _ h => h) (Or.inl ⟨by kernel_rfl, fun _ hS => by kernel_rfl⟩) hHeld ?_
  (try simp only [Act.put, List.getElem_toArray, List.getElem_cons_succ, List.getElem_cons_zero, List.setIfInBounds_toArray, List.set_cons_zero, List.set_cons_succ])
  have HE := Lib.hid hHeld
  refine wpAnyH_done (by kernel_rfl) ?_ _
  clear hHeld
  go_wp2
  first | go_ret | (refine bodyPost_ret (results_tmp rfl _ _ _) rfl ?_)
  refine ⟨by kernel_rfl, ?_⟩
  have h2 : Below w.heap.size w w7 := by
    have h7 := HS7.out
    have hb := HB2.out.1
    exact ⟨h7.os.trans hb.os, h7.tape.trans hb.tape, h7.output.trans hb.output, Nat.le_trans hb.size h7.size, fun k hk => (h7.block k (Nat.lt_of_lt_of_le hk hb.size) (fun e => by
      rw [HB2.out.2.2.2] at e
      rcases e with e | e
      · have := HB2.out.2.2.1 k e; omega
      · have := hb.size; omega)).trans (hb.block k hk)⟩
  exact h2.trans ((H711.out.trans (HE.out.mono H711.out.size)).mono h2.size)
end Go.Proofs.YtbiacjkkgddclaaGreat
