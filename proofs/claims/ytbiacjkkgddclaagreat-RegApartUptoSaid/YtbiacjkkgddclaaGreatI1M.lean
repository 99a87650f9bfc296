/- reg.named. -/
import Derived.Test.YtbiacjkkgddclaaGreatG1G2H2H9G5
import Derived.Test.YtbiacjkkgddclaaGreatH4H8Cl
import Derived.Test.YtbiacjkkgddclaaGreatNwXc0PyPmPn
namespace Go.Proofs.YtbiacjkkgddclaaGreat
set_option linter.unusedSimpArgs false
set_option linter.unusedVariables false
open Go Go.RowKit Go.Shelf Go.Maps

/-- named's loop: what was last, what is left. -/
def namedGo : Option Ik → List Ik → Ik → Bool
  | p, [], z => mayI z && (match p with | none => true | some q => decide (bef q z))
  | p, y :: l, z => mayI y && ((match p with | none => true | some q => decide (bef q y)) && namedGo (some y) l z)
theorem namedGo_chain : ∀ (l : List Ik) (p : Ik) (z : Ik), namedGo (some p) l z = (decide (bef p (l.head?.getD z)) && (mayI z && chainB l z))
  | [], p, z => by by_cases h : bef p z <;> simp [namedGo, chainB, h]
  | y :: l, p, z => by
    unfold namedGo chainB
    rw [namedGo_chain l y z]
    simp only [List.head?_cons, Option.getD_some]
    by_cases h : bef p y <;> by_cases h' : bef y (l.head?.getD z) <;> cases mayI y <;> cases mayI z <;> cases chainB l z <;> simp [h, h']
theorem namedGo_none (l : List Ik) (z : Ik) : namedGo none l z = (mayI z && chainB l z) := by
  cases l with
  | nil => simp [namedGo, chainB]
  | cons y l =>
    unfold namedGo chainB
    rw [namedGo_chain l y z]
    by_cases h' : bef y (l.head?.getD z) <;> cases mayI y <;> cases mayI z <;> cases chainB l z <;> simp [h']
/-- a write's cells: its id, and what it was written over. -/
structure WCells (CW : Array Value) (z : Ik) (A : Option Addr) (n c : Nat) : Prop where
  size : CW.size = 32
  i0 : CW[0]? = some (.int .i64 z.a)
  i1 : CW[1]? = some (.int .i64 z.n)
  i31 : CW[31]? = some (.slice A n c)
/-- where named stands. -/
structure NaR (W0 : World) (g : Nat) (l : List Ik) (z : Ik) (r : Bool) (i : Nat) (wr : World) (last : Option Ik) : Prop where
  below : Below (g + 1) W0 wr
  box : wr.heap[g + 1]? = some (.cells #[.int .i64 (last.getD ⟨0, 0⟩).a, .int .i64 (last.getD ⟨0, 0⟩).n] 28)
  go : namedGo last (l.drop i) z = r
  some : last.isSome = decide (0 < i)
theorem ik_one (a n : Int) : (#[.int .i64 a, .int .i64 n] : Array Value).all (·.oneCell') = true := by simp [Value.oneCell']
set_option maxRecDepth 100000 in
set_option maxHeartbeats 2000000 in
theorem named_c (w : World) (G : Nat → Prop) (CW : Array Value) (z : Ik) (A : Option Addr) (c n : Nat) (l : List Ik) (hc : WCells CW z A n c) (hs : IkG w G A c l) (hG : ∀ k, G k → k < w.heap.size) (hn : n = l.length) :
    Calls Tryz.prog 29 #[.agg CW] w fun e w' => e = .returned (.bool (mayI z && chainB l z)) ∧ Below w.heap.size w w' := by
  obtain ⟨g, hg⟩ : ∃ g, g = w.heap.size := ⟨_, rfl⟩
  obtain ⟨W0, hW0⟩ : ∃ W, W = (w.alloc (.cells CW 49)).alloc (.cells #[.int .i64 0, .int .i64 0] 28) := ⟨_, rfl⟩
  obtain ⟨r, hr⟩ : ∃ r, r = (mayI z && chainB l z) := ⟨_, rfl⟩
  have hbw : BelD w W0 := by rw [hW0]; exact bel2 _ _ _
  have hz0 : W0.heap.size = g + 2 := by rw [hW0, hg]; simp
  have hk0 : W0.heap[g]? = some (.cells CW 49) := by rw [hW0, hg]; exact (heapOld _ _ _ (by simp)).trans (heap_alloc_new _ _)
  have hk1 : W0.heap[g + 1]? = some (.cells #[.int .i64 0, .int .i64 0] 28) := by
    rw [hW0, hg]
    have := heap_alloc_new (w.alloc (.cells CW 49)) (.cells #[.int .i64 0, .int .i64 0] 28)
    rwa [World.size_alloc] at this
  have hcell : ∀ wz : World, Below (g + 1) W0 wz → wz.rangeAt g 0 [.int .i64 z.a, .int .i64 z.n] ∧ wz.cell? ⟨g, 31, none⟩ = some (.slice A n c) := fun wz hz => by
    have e := (hz.block g (by omega)).trans hk0
    refine ⟨fun i v hv => ?_, (cell_of_row _ _ 31 _ _ _ e).trans hc.i31⟩
    rw [Nat.zero_add, cell_of_row _ _ i _ _ _ e]
    match i, hv with
    | 0, hv => exact hc.i0.trans hv
    | 1, hv => exact hc.i1.trans hv
    | i + 2, hv => simp at hv
  have hcc : n ≤ c ∧ c ≤ 9223372036854775807 := ⟨by rw [hn]; exact hs.1, hs.2.1⟩
  have hrow : ∀ wz : World, Below (g + 1) W0 wz → ∀ j (hj : j < l.length), ∃ b o, A = some ⟨b, o, none⟩ ∧ wz.rangeAt b (o + j * 2) [.int .i64 l[j].a, .int .i64 l[j].n] := fun wz hz j hj => by
    obtain ⟨b, o, e, hg', hr'⟩ := hs.at_ j hj
    have hb : b < w.heap.size := hG b hg'
    exact ⟨b, o, e, fun i v hv => (World.cell?_of_block (a := ⟨b, o + j * 2 + i, none⟩) ((hz.block b (by omega)).trans (hbw.1.block b hb))).trans (hr' i v hv)⟩
  have hn0 : NaR W0 g l z r 0 W0 none := ⟨Below.refl _ _, hk1, by rw [List.drop_zero, namedGo_none, hr], rfl⟩
  have HMY := Lib.hid (fun wx x => may_c wx x)
  have HBF := Lib.hid (fun wx x y => before_c wx x y)
  have HIL := Lib.hid (show ∀ a b : Value, (Tryz.prog.info? 28).map (·.size) = some [a, b].length from fun _ _ => ikInfo)
  have HIS := Lib.hid (show ∀ a b : Value, (Tryz.prog.info? 28).map (·.size) = some (#[a, b] : Array Value).size from fun _ _ => ikInfo)
  have HG := Lib.hid hg
  have HW := Lib.hid hW0
  have HZ := Lib.hid hz0
  have HC := Lib.hid hcell
  have HROW := Lib.hid hrow
  have HN0 := Lib.hid hn0
  have HN := Lib.hid hn
  have HBW := Lib.hid hbw
  have hc1 := hcc.1
  have hc2 := hcc.2
  rw [← hr]
  clear hg hW0 hz0 hk0 hk1 hcell hcc hrow hn0 hn hbw hc hs hG hr
  go_enter Tryz.func29, Tryz.ntmps29
  go_upto_region 2 with (fail)
  rw [← HW.out, ← HG.out]
  have h31 := (HC.out W0 (Below.refl _ _)).2
  go_wp2
  clear h31
  go_loopw [10] (fun iv wr => ∃ i : Nat, i ≤ n ∧ iv = .int .i64 i ∧ ∃ last, Hid (NaR W0 g l z r i wr last)) (fun iv _ => n - (intOf iv).toNat)
  case atStart => exact ⟨0, Nat.zero_le _, rfl, none, Lib.hid HN0.out⟩
  case round =>
   obtain ⟨i, hin, rfl, last, hR⟩ := hrel
   by_cases hi : i < n
   · have hiI : (i : Int) < (n : Int) := by omega
     have hi0 : (0 : Int) ≤ i := by omega
     have hil : i < l.length := by rw [← HN.out]; exact hi
     obtain ⟨q, o, hA, hrg⟩ := HROW.out wr hR.out.below i hil
     subst hA
     obtain ⟨y, hy⟩ : ∃ y, y = l[i] := ⟨_, rfl⟩
     rw [← hy] at hrg
     have hgo := hR.out.go
     rw [List.drop_eq_getElem_cons hil, ← hy] at hgo
     have HY := Lib.hid hgo
     have HS := Lib.hid hR.out.some
     have hszr : g + 2 ≤ wr.heap.size := by have := hR.out.below.size; have := HZ.out; omega
     obtain ⟨gb, hgb⟩ : ∃ b, b = wr.heap.size := ⟨_, rfl⟩
     obtain ⟨w1, hw1⟩ : ∃ w1, w1 = wr.alloc (.cells #[.int .i64 y.a, .int .i64 y.n] 28) := ⟨_, rfl⟩
     have hb1 : Below wr.heap.size wr w1 := by rw [hw1]; exact (bel1 _ _).1
     have hky : w1.heap[gb]? = some (.cells #[.int .i64 y.a, .int .i64 y.n] 28) := by rw [hw1, hgb]; exact heap_alloc_new _ _
     have HW1 := Lib.hid hw1
     have HGB := Lib.hid hgb
     have HB1 := Lib.hid hb1
     have hyr : ∀ wz, Below w1.heap.size w1 wz → wz.rangeAt gb 0 [.int .i64 y.a, .int .i64 y.n] := fun wz hz => ik_range ((hz.block gb (Array.getElem?_eq_some_iff.1 hky).1).trans hky)
     have hxr : ∀ wz, Below w1.heap.size w1 wz → wz.heap[g + 1]? = some (.cells #[.int .i64 (last.getD ⟨0, 0⟩).a, .int .i64 (last.getD ⟨0, 0⟩).n] 28) := fun wz hz => ((hz.block (g + 1) (by have := hb1.size; omega)).trans (hb1.block (g + 1) (by omega))).trans hR.out.box
     have HYR := Lib.hid hyr
     have HXR := Lib.hid hxr
     have HRG := Lib.hid hrg
     clear hw1 hgb hb1 hky hyr hxr hgo hy hrg
     obtain ⟨ya, yn⟩ := y
     obtain ⟨p, hp⟩ : ∃ p, p = last.getD ⟨0, 0⟩ := ⟨_, rfl⟩
     rw [← hp] at HXR
     have HP := Lib.hid hp
     clear hp
     obtain ⟨pa, pn⟩ := p
     dsimp only at HRG HYR HXR
     go_upto_region 5 with (first | (refine wpList_mid rfl 28 _ rfl q (o + i * 2) rfl [.int .i64 ya, .int .i64 yn] _ HRG.out ikUnd rfl (HIL.out _ _) ?_) | fail)
     rw [← HW1.out, ← HGB.out]
     have hky1 := HYR.out w1 (Below.refl _ _)
     cases hm : mayI ⟨ya, yn⟩ with
     | false =>
       have hf : r = false := by rw [← HY.out]; unfold namedGo; rw [hm]; rfl
       subst hf
       have HM := Lib.hid hm
       have HMF := Lib.hid (fun wx => show Calls Tryz.prog 52 #[.agg #[.int .i64 ya, .int .i64 yn]] wx fun e w' => e = .returned (.bool false) ∧ BelD wx w' from by have := may_c wx ⟨ya, yn⟩; rwa [hm] at this)
       clear hm HMY
       go_wp2_with (first | (refine wpList_mid rfl 28 _ rfl gb 0 rfl [.int .i64 ya, .int .i64 yn] _ hky1 ikUnd rfl (HIL.out _ _) ?_) | (go_at_call 52; refine (HMF.out _).mono ?_; rintro e w2 ⟨rfl, hb2⟩; have HB2 := Lib.hid hb2; clear hb2) | fail)
       first | go_ret | go_ret2
       have hb := HBW.out.1
       have h1 := HB1.out
       exact ⟨rfl, hb.trans ((hR.out.below.mono (by have := HG.out; omega)).trans ((h1.trans (HB2.out.1.mono h1.size)).mono (by have := HG.out; omega)))⟩
     | true =>
       have HMT := Lib.hid (fun wx => show Calls Tryz.prog 52 #[.agg #[.int .i64 ya, .int .i64 yn]] wx fun e w' => e = .returned (.bool true) ∧ BelD wx w' from by have := may_c wx ⟨ya, yn⟩; rwa [hm] at this)
       have HM := Lib.hid hm
       clear hm HMY
       by_cases h0 : i = 0
       · have hl0 : last = none := by
           cases e : last with
           | none => rfl
           | some v => have := HS.out; rw [e, h0] at this; exact absurd this (by simp)
         have hnx : namedGo (some ⟨ya, yn⟩) (l.drop (i + 1)) z = r := by
           rw [← HY.out, hl0]
           conv => rhs; unfold namedGo
           rw [HM.out]; rfl
         have HNX := Lib.hid hnx
         have h00 : ¬ ((0 : Int) < (i : Int)) := by omega
         have HI0 := Lib.hid h0
         clear hnx hl0 h0
         go_upto_region 7 with (first | (refine wpList_mid rfl 28 _ rfl gb 0 rfl [.int .i64 ya, .int .i64 yn] _ hky1 ikUnd rfl (HIL.out _ _) ?_) | (go_at_call 52; refine (HMT.out _).mono ?_; rintro e w2 ⟨rfl, hb2⟩; have HB2 := Lib.hid hb2; have hky2 := HYR.out w2 hb2.1; have hkx2 := HXR.out w2 hb2.1; clear hb2) | fail)
         go_wp2_with (first | (refine wpList_mid rfl 28 _ rfl gb 0 rfl [.int .i64 ya, .int .i64 yn] _ hky2 ikUnd rfl (HIL.out _ _) ?_) | (refine wpList_store_row rfl 28 _ _ rfl (g + 1) #[.int .i64 ya, .int .i64 yn] rfl rfl 28 #[.int .i64 pa, .int .i64 pn] hkx2 (HIS.out _ _) rfl (ik_one _ _) ?_) | fail)
         go_roundw
         case measure => simp [intOf]; omega
         case rel =>
           refine ⟨i + 1, by omega, by go_num, some ⟨ya, yn⟩, Lib.hid ⟨?_, ?_, ?_, by simp⟩⟩
           · have hb1 := HB1.out
             have hbx : Below wr.heap.size wr w2 := hb1.trans (HB2.out.1.mono hb1.size)
             exact below_row (hR.out.below.trans (hbx.mono (by omega))) (by omega) _
           · exact setRow_heap _ _ _ _ _ _ hkx2
           · exact HNX.out
       · have h00 : (0 : Int) < (i : Int) := by omega
         have hd00 : decide (0 < i) = true := decide_eq_true (by omega)
         have hls : last = some ⟨pa, pn⟩ := by
           cases e : last with
           | none => have := HS.out; rw [e, decide_eq_true (show 0 < i by omega)] at this; cases this
           | some v => rw [show v = ⟨pa, pn⟩ from by have := HP.out; rw [e] at this; exact this.symm]
         have HLS := Lib.hid hls
         clear hls h0
         by_cases hbf : bef ⟨pa, pn⟩ ⟨ya, yn⟩
         · have hnx : namedGo (some ⟨ya, yn⟩) (l.drop (i + 1)) z = r := by
             rw [← HY.out, HLS.out]
             conv => rhs; unfold namedGo
             rw [HM.out]
             simp [hbf]
           have HNX := Lib.hid hnx
           have HBT := Lib.hid (fun wx => show Calls Tryz.prog 36 #[.agg #[.int .i64 pa, .int .i64 pn], .agg #[.int .i64 ya, .int .i64 yn]] wx fun e w' => e = .returned (.bool true) ∧ BelD wx w' from by have := before_c wx ⟨pa, pn⟩ ⟨ya, yn⟩; rwa [decide_eq_true hbf] at this)
           clear hnx hbf HBF
           go_upto_region 7 with (first | (refine wpList_mid rfl 28 _ rfl gb 0 rfl [.int .i64 ya, .int .i64 yn] _ hky1 ikUnd rfl (HIL.out _ _) ?_) | ((try rw [hd00]); refine wpList_row rfl 28 _ rfl (g + 1) rfl 28 #[.int .i64 pa, .int .i64 pn] (0, 0) _ hkx2 ikUnd rfl (HIS.out _ _) ?_) | (refine wpList_mid rfl 28 _ rfl gb 0 rfl [.int .i64 ya, .int .i64 yn] _ hky2 ikUnd rfl (HIL.out _ _) ?_) | (go_at_call 52; refine (HMT.out _).mono ?_; rintro e w2 ⟨rfl, hb2⟩; have HB2 := Lib.hid hb2; have hky2 := HYR.out w2 hb2.1; have hkx2 := HXR.out w2 hb2.1; clear hb2) | (go_at_call 36; refine (HBT.out _).mono ?_; rintro e w3 ⟨rfl, hb3⟩; have HB3 := Lib.hid hb3; have hky3 := HYR.out w3 (HB2.out.1.trans (hb3.1.mono HB2.out.1.size)); have hkx3 := HXR.out w3 (HB2.out.1.trans (hb3.1.mono HB2.out.1.size)); clear hb3) | fail)
           go_wp2_with (first | (refine wpList_mid rfl 28 _ rfl gb 0 rfl [.int .i64 ya, .int .i64 yn] _ hky3 ikUnd rfl (HIL.out _ _) ?_) | (refine wpList_store_row rfl 28 _ _ rfl (g + 1) #[.int .i64 ya, .int .i64 yn] rfl rfl 28 #[.int .i64 pa, .int .i64 pn] hkx3 (HIS.out _ _) rfl (ik_one _ _) ?_) | fail)
           go_roundw
           case measure => simp [intOf]; omega
           case rel =>
             refine ⟨i + 1, by omega, by go_num, some ⟨ya, yn⟩, Lib.hid ⟨?_, ?_, ?_, by simp⟩⟩
             · have hb1 := HB1.out
               have hbx : Below wr.heap.size wr w3 := (hb1.trans (HB2.out.1.mono hb1.size)).trans (HB3.out.1.mono (Nat.le_trans hb1.size HB2.out.1.size))
               exact below_row (hR.out.below.trans (hbx.mono (by omega))) (by omega) _
             · exact setRow_heap _ _ _ _ _ _ hkx3
             · exact HNX.out
         · have hf : r = false := by
             rw [← HY.out, HLS.out]; unfold namedGo; simp [hbf]
           subst hf
           have HBT := Lib.hid (fun wx => show Calls Tryz.prog 36 #[.agg #[.int .i64 pa, .int .i64 pn], .agg #[.int .i64 ya, .int .i64 yn]] wx fun e w' => e = .returned (.bool false) ∧ BelD wx w' from by have := before_c wx ⟨pa, pn⟩ ⟨ya, yn⟩; rwa [decide_eq_false hbf] at this)
           clear hbf HBF
           go_wp2_with (first | (refine wpList_mid rfl 28 _ rfl gb 0 rfl [.int .i64 ya, .int .i64 yn] _ hky1 ikUnd rfl (HIL.out _ _) ?_) | ((try rw [hd00]); refine wpList_row rfl 28 _ rfl (g + 1) rfl 28 #[.int .i64 pa, .int .i64 pn] (0, 0) _ hkx2 ikUnd rfl (HIS.out _ _) ?_) | (refine wpList_mid rfl 28 _ rfl gb 0 rfl [.int .i64 ya, .int .i64 yn] _ hky2 ikUnd rfl (HIL.out _ _) ?_) | (go_at_call 52; refine (HMT.out _).mono ?_; rintro e w2 ⟨rfl, hb2⟩; have HB2 := Lib.hid hb2; have hky2 := HYR.out w2 hb2.1; have hkx2 := HXR.out w2 hb2.1; clear hb2) | (go_at_call 36; refine (HBT.out _).mono ?_; rintro e w3 ⟨rfl, hb3⟩; have HB3 := Lib.hid hb3; clear hb3) | fail)
           first | go_ret | go_ret2
           have hb := HBW.out.1
           have h1 := HB1.out
           exact ⟨rfl, hb.trans ((hR.out.below.mono (by have := HG.out; omega)).trans (((h1.trans (HB2.out.1.mono h1.size)).trans (HB3.out.1.mono (Nat.le_trans h1.size HB2.out.1.size))).mono (by have := HG.out; omega)))⟩
   · have hie : i = n := by omega
     subst hie
     have hiI : ¬ ((i : Int) < (i : Int)) := by omega
     have hgo := hR.out.go
     rw [List.drop_of_length_le (by rw [← HN.out]; omega)] at hgo
     have HGO := Lib.hid hgo
     have hC2 : ∀ wz, Below wr.heap.size wr wz → wz.rangeAt g 0 [.int .i64 z.a, .int .i64 z.n] ∧ wz.cell? ⟨g, 31, none⟩ = some (.slice A i c) := fun wz hz => HC.out wz (hR.out.below.trans (hz.mono (by have := hR.out.below.size; have := HZ.out; omega)))
     have hX2 : ∀ wz, Below wr.heap.size wr wz → wz.heap[g + 1]? = some (.cells #[.int .i64 (last.getD ⟨0, 0⟩).a, .int .i64 (last.getD ⟨0, 0⟩).n] 28) := fun wz hz => (hz.block (g + 1) (by have := hR.out.below.size; have := HZ.out; omega)).trans hR.out.box
     have HC2 := Lib.hid hC2
     have HX2 := Lib.hid hX2
     have hkz1 := (HC2.out wr (Below.refl _ _)).1
     have HMZ0 := Lib.hid (fun wx => may_c wx z)
     have HS := Lib.hid hR.out.some
     obtain ⟨p, hp⟩ : ∃ p, p = last.getD ⟨0, 0⟩ := ⟨_, rfl⟩
     rw [← hp] at HX2
     have HP := Lib.hid hp
     have HBP := Lib.hid (fun wx => before_c wx p z)
     have hfin : ∀ wz, Below wr.heap.size wr wz → Below w.heap.size w wz := fun wz hz => HBW.out.1.trans ((hR.out.below.trans (hz.mono (by have := hR.out.below.size; have := HZ.out; omega))).mono (by have := HG.out; omega))
     have HF := Lib.hid hfin
     clear hgo hC2 hX2 hp hfin
     obtain ⟨za, zn⟩ := z
     obtain ⟨pa, pn⟩ := p
     dsimp only at hkz1 HC2 HX2 HMZ0 HBP
     cases hm : mayI ⟨za, zn⟩ with
     | false =>
       have hf : r = false := by rw [← HGO.out]; unfold namedGo; rw [hm]; rfl
       have HMZ := Lib.hid (fun wx => show Calls Tryz.prog 52 #[.agg #[.int .i64 za, .int .i64 zn]] wx fun e w' => e = .returned (.bool false) ∧ BelD wx w' from by have := HMZ0.out wx; rwa [hm] at this)
       subst hf
       have hq0 := hkz1 0 (.int .i64 za) rfl
       have hq1 := hkz1 1 (.int .i64 zn) rfl
       simp only [Nat.add_zero, Nat.zero_add] at hq0 hq1
       clear hm HMZ0 hkz1
       go_wp2_with (go_at_call 52; refine (HMZ.out _).mono ?_; rintro e w2 ⟨rfl, hb2⟩; have HB2 := Lib.hid hb2; clear hb2 hq0 hq1)
       first | go_ret | go_ret2
       exact ⟨rfl, HF.out _ HB2.out.1⟩
     | true =>
       have HMZ := Lib.hid (fun wx => show Calls Tryz.prog 52 #[.agg #[.int .i64 za, .int .i64 zn]] wx fun e w' => e = .returned (.bool true) ∧ BelD wx w' from by have := HMZ0.out wx; rwa [hm] at this)
       have HM := Lib.hid hm
       clear hm HMZ0
       by_cases h0 : i = 0
       · subst h0
         have hl0 : last = none := by
           cases e : last with
           | none => rfl
           | some v => have := HS.out; rw [e] at this; exact absurd this (by simp)
         have hf : r = true := by rw [← HGO.out, hl0]; unfold namedGo; rw [HM.out]; rfl
         subst hf
         clear hl0
         go_wp2_with (first | (refine wpList_mid rfl 28 _ rfl g 0 rfl [.int .i64 za, .int .i64 zn] _ hkz1 ikUnd rfl (HIL.out _ _) ?_) | (go_at_call 52; refine (HMZ.out _).mono ?_; rintro e w2 ⟨rfl, hb2⟩; have HB2 := Lib.hid hb2; have hkz2 := (HC2.out w2 hb2.1).1; have h312 := (HC2.out w2 hb2.1).2; have hkx2 := HX2.out w2 hb2.1; clear hb2) | fail)
         first | go_ret | go_ret2
         exact ⟨rfl, HF.out _ HB2.out.1⟩
       · have hd00 : ((i : Int) == 0) = false := by simpa using h0
         have h0i : ¬ ((i : Int) = 0) := by omega
         have hls : last = some ⟨pa, pn⟩ := by
           cases e : last with
           | none => have := HS.out; rw [e, decide_eq_true (show 0 < i by omega)] at this; cases this
           | some v => rw [show v = ⟨pa, pn⟩ from by have := HP.out; rw [e] at this; exact this.symm]
         have hf : r = decide (bef ⟨pa, pn⟩ ⟨za, zn⟩) := by rw [← HGO.out, hls]; unfold namedGo; rw [HM.out]; simp
         have HF2 := Lib.hid hf
         have HBZ := Lib.hid (fun wx => show Calls Tryz.prog 36 #[.agg #[.int .i64 pa, .int .i64 pn], .agg #[.int .i64 za, .int .i64 zn]] wx fun e w' => e = .returned (.bool r) ∧ BelD wx w' from by have := HBP.out wx; rwa [← HF2.out] at this)
         clear hls hf HBP
         go_wp2_with (first | (refine wpList_mid rfl 28 _ rfl g 0 rfl [.int .i64 za, .int .i64 zn] _ hkz1 ikUnd rfl (HIL.out _ _) ?_) | ((try rw [hd00]); refine wpList_row rfl 28 _ rfl (g + 1) rfl 28 #[.int .i64 pa, .int .i64 pn] (0, 0) _ hkx2 ikUnd rfl (HIS.out _ _) ?_) | ((try rw [hd00]); refine wpList_mid rfl 28 _ rfl g 0 rfl [.int .i64 za, .int .i64 zn] _ hkz2 ikUnd rfl (HIL.out _ _) ?_) | (go_at_call 52; refine (HMZ.out _).mono ?_; rintro e w2 ⟨rfl, hb2⟩; have HB2 := Lib.hid hb2; have hkz2 := (HC2.out w2 hb2.1).1; have h312 := (HC2.out w2 hb2.1).2; have hkx2 := HX2.out w2 hb2.1; clear hb2) | (go_at_call 36; refine (HBZ.out _).mono ?_; rintro e w3 ⟨rfl, hb3⟩; have HB3 := Lib.hid hb3; clear hb3) | fail)
         first | go_ret | go_ret2
         exact ⟨rfl, HF.out _ (HB2.out.1.trans (HB3.out.1.mono HB2.out.1.size))⟩
end Go.Proofs.YtbiacjkkgddclaaGreat
