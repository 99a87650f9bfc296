/- counterpaneref34's May and Before; counterpaneref37's has. The reference's Same of equal writes; what RegOrder's walk needs. counterpaneref37.Dated. -/
import Derived.Test.YtbiacjkkgddclaaGreatG1G2H2H9G5
import Derived.Test.YtbiacjkkgddclaaGreatI8J1J5
import Derived.Test.YtbiacjkkgddclaaGreatK0K3FeFfFg
import Derived.Test.YtbiacjkkgddclaaGreatXmJ7Xa1
import Derived.Test.YtbiacjkkgddclaaGreatI1M
import Derived.Test.YtbiacjkkgddclaaGreatJ2NoGt
namespace Go.Proofs.YtbiacjkkgddclaaGreat
set_option linter.unusedSimpArgs false
set_option linter.unusedVariables false
open Go Go.RowKit Go.Shelf Go.Maps

set_option maxRecDepth 100000 in
theorem mayR_c (w : World) (x : Ik) : Calls Tryz.prog 64 #[.agg #[.int .i64 x.a, .int .i64 x.n]] w fun e w' => e = .returned (.bool (mayI x)) ∧ BelD w w' := by
  obtain ⟨a, n⟩ := x
  unfold mayI
  dsimp only
  by_cases h1 : 1 ≤ a
  · by_cases h2 : a ≤ 1000
    · go_enter Tryz.func64, Tryz.ntmps64
      go_wp2
      go_ret
      exact ⟨ret_bool (by simp [h1, h2]), bel1 _ _⟩
    · go_enter Tryz.func64, Tryz.ntmps64
      go_wp2
      go_ret
      exact ⟨ret_bool (by simp [h1, h2]; try omega), bel1 _ _⟩
  · go_enter Tryz.func64, Tryz.ntmps64
    go_wp2
    go_ret
    exact ⟨ret_bool (by simp [h1]; try omega), bel1 _ _⟩
set_option maxRecDepth 100000 in
theorem beforeR_c (w : World) (x y : Ik) : Calls Tryz.prog 42 #[.agg #[.int .i64 x.a, .int .i64 x.n], .agg #[.int .i64 y.a, .int .i64 y.n]] w fun e w' => e = .returned (.bool (decide (bef x y))) ∧ BelD w w' := by
  obtain ⟨xa, xn⟩ := x
  obtain ⟨ya, yn⟩ := y
  unfold bef
  dsimp only
  by_cases h1 : xn < yn
  · go_enter Tryz.func42, Tryz.ntmps42
    go_wp2
    go_ret
    exact ⟨ret_bool (by simp [h1]), bel2 _ _ _⟩
  · by_cases h2 : xn = yn
    · subst h2
      go_enter Tryz.func42, Tryz.ntmps42
      go_wp2
      go_ret
      exact ⟨ret_bool (by simp), bel2 _ _ _⟩
    · go_enter Tryz.func42, Tryz.ntmps42
      go_wp2
      go_ret
      exact ⟨ret_bool (by simp [h1, h2]), bel2 _ _ _⟩
set_option maxRecDepth 100000 in
set_option maxHeartbeats 2000000 in
theorem has37_c (w : World) (G : Nat → Prop) (A : Option Addr) (c n : Nat) (l : List Ik) (hs : IkG w G A c l) (hG : ∀ k, G k → k < w.heap.size) (hn : n = l.length) (x : Ik) :
    Calls Tryz.prog 65 #[.slice A n c, .agg #[.int .i64 x.a, .int .i64 x.n]] w fun e w' => e = .returned (.bool (decide (x ∈ l))) ∧ Below w.heap.size w w' := by
  obtain ⟨g, hg⟩ : ∃ g, g = w.heap.size := ⟨_, rfl⟩
  obtain ⟨W0, hW0⟩ : ∃ W, W = w.alloc (.cells #[.int .i64 x.a, .int .i64 x.n] 28) := ⟨_, rfl⟩
  have hbw : BelD w W0 := by rw [hW0]; exact bel1 _ _
  have hz0 : W0.heap.size = g + 1 := by rw [hW0, hg]; simp
  have hk0 : W0.heap[g]? = some (.cells #[.int .i64 x.a, .int .i64 x.n] 28) := by rw [hW0, hg]; exact heap_alloc_new _ _
  have hcc : n ≤ c ∧ c ≤ 9223372036854775807 := ⟨by rw [hn]; exact hs.1, hs.2.1⟩
  have hrow : ∀ wz : World, Below W0.heap.size W0 wz → ∀ j (hj : j < l.length), ∃ b o, A = some ⟨b, o, none⟩ ∧ wz.rangeAt b (o + j * 2) [.int .i64 l[j].a, .int .i64 l[j].n] := fun wz hz j hj => by
    obtain ⟨b, o, e, hg', hr'⟩ := hs.at_ j hj
    have hb : b < w.heap.size := hG b hg'
    exact ⟨b, o, e, fun i v hv => (World.cell?_of_block (a := ⟨b, o + j * 2 + i, none⟩) ((hz.block b (by omega)).trans (hbw.1.block b hb))).trans (hr' i v hv)⟩
  have hrowb : ∀ wr : World, Below W0.heap.size W0 wr → ∀ j (hj : j < l.length) b o (wz : World), Below wr.heap.size wr wz → wr.rangeAt b (o + j * 2) [.int .i64 l[j].a, .int .i64 l[j].n] → wz.rangeAt b (o + j * 2) [.int .i64 l[j].a, .int .i64 l[j].n] := fun wr hw j hj b o wz hz hr i v hv => by
    have h := hr i v hv
    have hlt : b < wr.heap.size := World.block_lt_of_cell? wr _ h
    exact (World.cell?_of_block (a := ⟨b, o + j * 2 + i, none⟩) (hz.block b hlt)).trans h
  have hxr : ∀ wz : World, Below W0.heap.size W0 wz → wz.rangeAt g 0 [.int .i64 x.a, .int .i64 x.n] := fun wz hz => ik_range ((hz.block g (by omega)).trans hk0)
  have HIL := Lib.hid (show ∀ a b : Value, (Tryz.prog.info? 28).map (·.size) = some [a, b].length from fun _ _ => ikInfo)
  have HG := Lib.hid hg
  have HW := Lib.hid hW0
  have HZ := Lib.hid hz0
  have HROW := Lib.hid hrow
  have HROWB := Lib.hid hrowb
  have HXR := Lib.hid hxr
  have HN := Lib.hid hn
  have HBW := Lib.hid hbw
  have hc1 := hcc.1
  have hc2 := hcc.2
  clear hg hW0 hz0 hk0 hcc hrow hrowb hn hbw hs hG hxr
  obtain ⟨xa, xn⟩ := x
  dsimp only at HXR
  go_enter Tryz.func65, Tryz.ntmps65
  go_upto_region 1 with (fail)
  rw [← HW.out, ← HG.out]
  go_wp2
  go_loopw [5] (fun iv wr => ∃ j : Nat, j ≤ n ∧ iv = .int .i64 j ∧ Hid ((∀ i (h : i < l.length), i < j → l[i] ≠ ⟨xa, xn⟩) ∧ Below W0.heap.size W0 wr)) (fun iv _ => n - (intOf iv).toNat)
  case atStart => exact ⟨0, Nat.zero_le _, rfl, Lib.hid ⟨fun i _ h => by omega, Below.refl _ _⟩⟩
  case round =>
   obtain ⟨j, hj, rfl, hR⟩ := hrel
   by_cases hlt : j < n
   · have hjl : j < l.length := by rw [← HN.out]; exact hlt
     obtain ⟨q, o, hA, hrg⟩ := HROW.out wr hR.out.2 j hjl
     subst hA
     have hj1 : (j : Int) < n := by omega
     have hj0 : (0 : Int) ≤ j := by omega
     obtain ⟨ya, hya⟩ : ∃ y, y = l[j].a := ⟨_, rfl⟩
     obtain ⟨yn, hyn⟩ : ∃ y, y = l[j].n := ⟨_, rfl⟩
     rw [← hya, ← hyn] at hrg
     have HY := Lib.hid (And.intro hya hyn)
     have hxr1 := fun (wz : World) (hz : Below wr.heap.size wr wz) => HXR.out wz (hR.out.2.trans (hz.mono hR.out.2.size))
     have hyr1 : ∀ wz, Below wr.heap.size wr wz → wz.rangeAt q (o + j * 2) [.int .i64 ya, .int .i64 yn] := fun wz hz => by rw [hya, hyn]; exact HROWB.out wr hR.out.2 j hjl q o wz hz (by rw [← hya, ← hyn]; exact hrg)
     have HXY := Lib.hid (And.intro hxr1 hyr1)
     clear hya hyn hrg hxr1 hyr1
     go_upto_region 4 with (fail)
     refine wp_region_held_drew (S := fun wx => Below wr.heap.size wr wx) (by kernel_rfl) (Below.refl _ _).drew (fun hHeld => ?_)
     obtain ⟨wa, hwa⟩ : ∃ x, x = wr.drew := ⟨_, rfl⟩
     rw [← hwa] at hHeld ⊢
     clear hwa
     refine wpAnyH_take (i := 0) (v := .slice (some ⟨q, o, none⟩) n c) rfl (by kernel_rfl) (by kernel_rfl) (by kernel_rfl) (fun _ _ _ h => h) (Or.inl ⟨by kernel_rfl, fun _ hS => by kernel_rfl⟩) hHeld ?_
     (try simp only [Act.put, List.getElem_toArray, List.getElem_cons_succ, List.getElem_cons_zero, List.setIfInBounds_toArray, List.set_cons_zero, List.set_cons_succ])
     refine wpAnyH_take (i := 1) (v := .int .i64 (j : Nat)) rfl (by kernel_rfl) (by kernel_rfl) (by kernel_rfl) (fun _ _ _ h => h) (Or.inl ⟨by kernel_rfl, fun _ hS => by kernel_rfl⟩) hHeld ?_
     (try simp only [Act.put, List.getElem_toArray, List.getElem_cons_succ, List.getElem_cons_zero, List.setIfInBounds_toArray, List.set_cons_zero, List.set_cons_succ])
     refine wpAnyH_take (i := 2) (v := .pointer (some ⟨q, o + j * 2, none⟩)) rfl (by kernel_rfl) (by kernel_rfl) (by kernel_rfl) (fun _ _ _ h => h) (Or.inl ⟨by kernel_rfl, fun _ hS => ix_atIo _ _ rfl q o n c j rfl rfl hlt⟩) hHeld ?_
     (try simp only [Act.put, List.getElem_toArray, List.getElem_cons_succ, List.getElem_cons_zero, List.setIfInBounds_toArray, List.set_cons_zero, List.set_cons_succ])
     refine wpAnyH_take (i := 3) (v := .agg #[.int .i64 ya, .int .i64 yn]) rfl (by kernel_rfl) (by kernel_rfl) (by kernel_rfl) (fun _ _ _ h => h) (yieldsIf_load_mid (by kernel_rfl) 28 _ rfl q (o + j * 2) rfl [.int .i64 ya, .int .i64 yn] _ (fun _ hS => HXY.out.2 _ hS) ikUnd rfl (HIL.out _ _)) hHeld ?_
     (try simp only [Act.put, List.getElem_toArray, List.getElem_cons_succ, List.getElem_cons_zero, List.setIfInBounds_toArray, List.set_cons_zero, List.set_cons_succ])
     refine wpAnyH_take (i := 4) (v := .agg #[.int .i64 xa, .int .i64 xn]) rfl (by kernel_rfl) (by kernel_rfl) (by kernel_rfl) (fun _ _ _ h => h) (yieldsIf_load_mid (by kernel_rfl) 28 _ rfl g 0 rfl [.int .i64 xa, .int .i64 xn] _ (fun _ hS => HXY.out.1 _ hS) ikUnd rfl (HIL.out _ _)) hHeld ?_
     (try simp only [Act.put, List.getElem_toArray, List.getElem_cons_succ, List.getElem_cons_zero, List.setIfInBounds_toArray, List.set_cons_zero, List.set_cons_succ])
     refine wpAnyH_take (i := 5) (v := .bool (decide ((⟨ya, yn⟩ : Ik) = ⟨xa, xn⟩))) rfl (by kernel_rfl) (by kernel_rfl) (by kernel_rfl) (fun _ _ _ h => h) (Or.inl ⟨by kernel_rfl, fun _ hS => ik_eq_run _ _ rfl ⟨ya, yn⟩ ⟨xa, xn⟩ rfl rfl rfl⟩) hHeld ?_
     (try simp only [Act.put, List.getElem_toArray, List.getElem_cons_succ, List.getElem_cons_zero, List.setIfInBounds_toArray, List.set_cons_zero, List.set_cons_succ])
     have HE := Lib.hid hHeld
     refine wpAnyH_done (by kernel_rfl) ?_ _
     clear hHeld
     by_cases he : (⟨ya, yn⟩ : Ik) = ⟨xa, xn⟩
     · have HEQ := Lib.hid he
       rw [decide_eq_true he]
       clear he
       go_wp2
       first | go_ret | go_ret2
       have hb := HBW.out.1
       refine ⟨ret_bool ?_, hb.trans ((hR.out.2.trans (HE.out.mono hR.out.2.size)).mono hb.size)⟩
       symm
       rw [decide_eq_true_eq]
       obtain ⟨h1, h2⟩ := HY.out
       have e3 : l[j] = ⟨xa, xn⟩ := by rw [← HEQ.out, h1, h2]
       rw [← e3]
       exact List.getElem_mem hjl
     · have HNE := Lib.hid he
       rw [decide_eq_false he]
       clear he
       go_wp2
       go_roundw
       case measure => simp [intOf]; omega
       case rel =>
         refine ⟨j + 1, by omega, by go_num, Lib.hid ⟨fun i hi hij => ?_, hR.out.2.trans (HE.out.mono hR.out.2.size)⟩⟩
         by_cases e : i = j
         · subst e
           intro e2
           refine HNE.out ?_
           rw [HY.out.1, HY.out.2, e2]
         · exact hR.out.1 i hi (by omega)
   · have hje : j = n := by omega
     subst hje
     have hiI : ¬ ((j : Int) < (j : Int)) := by omega
     go_wp2
     first | go_ret | go_ret2
     have hb := HBW.out.1
     refine ⟨ret_bool ?_, hb.trans (hR.out.2.mono hb.size)⟩
     symm
     rw [decide_eq_false_iff_not]
     intro hm
     obtain ⟨i, hi, e⟩ := List.mem_iff_getElem.1 hm
     exact hR.out.1 i hi (by rw [HN.out]; exact hi) e
end Go.Proofs.YtbiacjkkgddclaaGreat
namespace Go.Proofs.YtbiacjkkgddclaaGreat
set_option linter.unusedSimpArgs false
set_option linter.unusedVariables false
open Go Go.RowKit Go.Shelf Go.Maps

theorem ldIds_run {o : Oper} {ρ : Operand → Value} {w : World} (x : Operand) (ho : o.op = .load 38 x) (p : Addr) (hx : ρ x = .pointer (some p)) (v : Value) (hc : w.cell? p = some v) : (execOp ρ o).run Tryz.prog w = .ok (.value v) w := by
  unfold execOp
  simp only [ho, hx]
  simp [go_sem, hc]
theorem ix_at37 {o : Oper} {ρ : Operand → Value} {w : World} (x y : Operand) (ho : o.op = .indexAddr 22 x y) (g of ln cap i : Nat) (hx : ρ x = .slice (some ⟨g, of, none⟩) ln cap) (hy : ρ y = .int .i64 i) (hi : i < ln) : (execOp ρ o).run Tryz.prog w = .ok (.value (.pointer (some ⟨g, of + i * 32, none⟩))) w := by
  have h1 : (0 : Int) ≤ i := by omega
  have h2 : (i : Int) < ln := by omega
  unfold execOp
  simp only [ho, hx, hy]
  simp [go_sem, h1, h2]
theorem ix_at37r {o : Oper} {ρ : Operand → Value} {w : World} (x y : Operand) (ho : o.op = .indexAddr 54 x y) (g of ln cap i : Nat) (hx : ρ x = .slice (some ⟨g, of, none⟩) ln cap) (hy : ρ y = .int .i64 i) (hi : i < ln) : (execOp ρ o).run Tryz.prog w = .ok (.value (.pointer (some ⟨g, of + i * 32, none⟩))) w := by
  have h1 : (0 : Int) ≤ i := by omega
  have h2 : (i : Int) < ln := by omega
  unfold execOp
  simp only [ho, hx, hy]
  simp [go_sem, h1, h2]
set_option maxRecDepth 100000 in
set_option maxHeartbeats 16000000 in
theorem same37_c (w : World) (B : Nat) (m : Wr) (A A' : Option Addr) (c c' : Nat) (Ao Ao2 : Option Addr) (co co2 : Nat) (hd : m.x.t.d.ok) (hs : SlAt w B A c m.x.t.l) (hs' : SlAt w B A' c' m.x.t.l) (ho : IkG w (fun k => k < B) Ao co m.o) (ho' : IkG w (fun k => k < B) Ao2 co2 m.o) (hB : B ≤ w.heap.size) (hl : m.o.length ≤ 100000) :
    Calls Tryz.prog 45 #[.agg (wrA m A c Ao co), .agg (wrA m A' c' Ao2 co2)] w fun e w' => e = .returned (.bool true) ∧ Below w.heap.size w w' := by
  obtain ⟨n, hn⟩ : ∃ n, n = m.o.length := ⟨_, rfl⟩
  obtain ⟨C1, hC1⟩ : ∃ C, C = wrA m A c Ao co := ⟨_, rfl⟩
  obtain ⟨C2, hC2⟩ : ∃ C, C = wrA m A' c' Ao2 co2 := ⟨_, rfl⟩
  obtain ⟨X1, hX1⟩ : ∃ C, C = contA m.x A c := ⟨_, rfl⟩
  obtain ⟨X2, hX2⟩ : ∃ C, C = contA m.x A' c' := ⟨_, rfl⟩
  obtain ⟨g, hg⟩ : ∃ g, g = w.heap.size := ⟨_, rfl⟩
  obtain ⟨W0, hW0⟩ : ∃ W, W = (w.alloc (.cells C1 46)).alloc (.cells C2 46) := ⟨_, rfl⟩
  have hb : Below w.heap.size w W0 := by rw [hW0]; exact (bel2 _ _ _).1
  have hk0 : W0.heap[g]? = some (.cells C1 46) := by rw [hW0, hg]; exact (heapOld _ _ _ (by simp)).trans (heap_alloc_new _ _)
  have hk1 : W0.heap[g + 1]? = some (.cells C2 46) := by
    rw [hW0, hg]
    have := heap_alloc_new (w.alloc (.cells C1 46)) (.cells C2 46)
    rwa [World.size_alloc] at this
  have hrows : ∀ wz, Below W0.heap.size W0 wz → (wz.rangeAt g 0 [.int .i64 m.id.a, .int .i64 m.id.n] ∧ wz.rangeAt g 2 X1.toList ∧ wz.cell? ⟨g, 31, none⟩ = some (.slice Ao n co)) ∧ (wz.rangeAt (g + 1) 0 [.int .i64 m.id.a, .int .i64 m.id.n] ∧ wz.rangeAt (g + 1) 2 X2.toList ∧ wz.cell? ⟨(g + 1), 31, none⟩ = some (.slice Ao2 n co2)) := fun wz hz => by
    have e0 := wr_rows (by rw [← hC1]; exact (hz.block g (Array.getElem?_eq_some_iff.1 hk0).1).trans hk0)
    have e1 := wr_rows (by rw [← hC2]; exact (hz.block (g + 1) (Array.getElem?_eq_some_iff.1 hk1).1).trans hk1)
    rw [hX1, hX2, hn]
    exact ⟨⟨e0.1, e0.2.1, e0.2.2.2.1⟩, ⟨e1.1, e1.2.1, e1.2.2.2.1⟩⟩
  have hsm : ∀ wz, Below W0.heap.size W0 wz → Calls Tryz.prog 18 #[.agg X1, .agg X2] wz fun e w' => e = .returned (.bool true) ∧ Below wz.heap.size wz w' := fun wz hz => by
    have hbz : Below w.heap.size w wz := hb.trans (hz.mono hb.size)
    have h := rcsame_c m.x m.x wz B A A' c c' hd (hs.below (hbz.mono hB)) hd (hs'.below (hbz.mono hB)) (Nat.le_trans hB hbz.size)
    rw [sameC_self] at h
    unfold contV at h
    rw [← hX1, ← hX2] at h
    exact h
  have hids : ∀ wz, Below W0.heap.size W0 wz → ∀ i (hi : i < m.o.length), ∃ q o q2 o2, Ao = some ⟨q, o, none⟩ ∧ Ao2 = some ⟨q2, o2, none⟩ ∧ q < B ∧ q2 < B ∧ wz.rangeAt q (o + i * 2) m.o[i].cs ∧ wz.rangeAt q2 (o2 + i * 2) m.o[i].cs := fun wz hz i hi => by
    have hbz : Below w.heap.size w wz := hb.trans (hz.mono hb.size)
    obtain ⟨q, o, e1, e2, e3⟩ := (ho.below (hbz.mono hB)).at_ i hi
    obtain ⟨q2, o2, e4, e5, e6⟩ := (ho'.below (hbz.mono hB)).at_ i hi
    exact ⟨q, o, q2, o2, e1, e4, e2, e5, e3, e6⟩
  have hBW : B ≤ W0.heap.size := Nat.le_trans hB hb.size
  have hze : ∀ w : World, (Op.equalIn 10000 28 (.agg #[.int .i64 m.id.a, .int .i64 m.id.n]) (.agg #[.int .i64 m.id.a, .int .i64 m.id.n])).run Tryz.prog w = .ok true w := fun w => by rw [eqI]; simp
  have HIK := Lib.hid (show ∀ x : Ik, (Tryz.prog.info? 28).map (·.size) = some x.cs.length from fun _ => ikInfo)
  have HIL := Lib.hid (show ∀ a b : Value, (Tryz.prog.info? 28).map (·.size) = some [a, b].length from fun _ _ => ikInfo)
  have HC1 := Lib.hid (show (Tryz.prog.info? 37).map (·.size) = some X1.toList.length from by rw [hX1]; exact infC)
  have HC2 := Lib.hid (show (Tryz.prog.info? 37).map (·.size) = some X2.toList.length from by rw [hX2]; exact infC)
  have HROWS := Lib.hid hrows
  have HSM := Lib.hid hsm
  have HIDS := Lib.hid hids
  have HB := Lib.hid hb
  have HBW := Lib.hid hBW
  have HW := Lib.hid hW0
  have HG := Lib.hid hg
  have HN := Lib.hid hn
  have hn6 : n ≤ 100000 := by rw [hn]; exact hl
  rw [← hC1, ← hC2]
  clear hrows hsm hids hb hBW hW0 hg hn hk0 hk1 hC1 hC2 hX1 hX2 hd hs hs' ho ho' hB hl
  go_enter Tryz.func45, Tryz.ntmps45
  go_upto_region 1 with (fail)
  change Code.wp _ _ _ _ ((w.alloc (.cells C1 46)).alloc (.cells C2 46))
  rw [← HW.out, ← HG.out]
  have q0 := HROWS.out W0 (Below.refl _ _)
  go_upto_region 3 with (first | (refine wpList_mid rfl 28 _ rfl g 0 rfl [.int .i64 m.id.a, .int .i64 m.id.n] _ q0.1.1 ikUnd rfl (HIL.out _ _) ?_) | (refine wpList_mid rfl 28 _ rfl (g + 1) 0 rfl [.int .i64 m.id.a, .int .i64 m.id.n] _ q0.2.1 ikUnd rfl (HIL.out _ _) ?_) | (refine wpList_mid rfl 37 _ rfl g 2 rfl X1.toList _ q0.1.2.1 undC rfl HC1.out ?_; simp only [Array.toArray_toList]) | (refine wpList_mid rfl 37 _ rfl (g + 1) 2 rfl X2.toList _ q0.2.2.1 undC rfl HC2.out ?_; simp only [Array.toArray_toList]) | (go_at_call 18; refine (HSM.out W0 (Below.refl _ _)).mono ?_; rintro e w1 ⟨rfl, hb1⟩; have h31 := (HROWS.out w1 hb1).1.2.2; have h32 := (HROWS.out w1 hb1).2.2.2; have HB1 := Lib.hid hb1; clear hb1) | fail)
  clear h31 h32 q0 hze
  have hst : MoK w1 n (.int .i64 0) w1 := ⟨0, Nat.zero_le _, rfl, Lib.hid (Below.refl _ _)⟩
  have HST := Lib.hid hst
  clear hst
  go_wp2
  go_loopw [5] (fun iv wr => MoK w1 n iv wr) (fun iv _ => n - (intOf iv).toNat)
  case atStart => exact HST.out
  case round =>
   obtain ⟨i, hin, rfl, hR⟩ := hrel
   have hbr : Below W0.heap.size W0 wr := HB1.out.trans (hR.out.mono HB1.out.size)
   have h31 := (HROWS.out wr hbr).1.2.2
   have h32 := (HROWS.out wr hbr).2.2.2
   have HBR := Lib.hid hbr
   clear hbr
   by_cases hi : i < n
   · have hiI : (i : Int) < (n : Int) := by omega
     have hi0 : (0 : Int) ≤ i := by omega
     obtain ⟨q, o, q2, o2, hA1, hA2, hq, hq2, hr1, hr2⟩ := HIDS.out wr HBR.out i (by rw [← HN.out]; exact hi)
     obtain ⟨x, hx⟩ : ∃ x, x = m.o[i]'(by rw [← HN.out]; exact hi) := ⟨_, rfl⟩
     rw [← hx] at hr1 hr2
     subst hA1
     subst hA2
     have hbs : B ≤ wr.heap.size := Nat.le_trans HBW.out HBR.out.size
     have hra : ∀ wz, Below wr.heap.size wr wz → wz.cell? ⟨g, 31, none⟩ = some (.slice (some ⟨q, o, none⟩) n co) ∧ wz.rangeAt q (o + i * 2) x.cs := fun wz hz =>
       ⟨(HROWS.out wz (HBR.out.trans (hz.mono HBR.out.size))).1.2.2, fun j v hv => (World.cell?_of_block (a := ⟨q, o + i * 2 + j, none⟩) (hz.block q (Nat.lt_of_lt_of_le hq hbs))).trans (hr1 j v hv)⟩
     have hrb : ∀ wz, Below wr.heap.size wr wz → wz.cell? ⟨g + 1, 31, none⟩ = some (.slice (some ⟨q2, o2, none⟩) n co2) ∧ wz.rangeAt q2 (o2 + i * 2) x.cs := fun wz hz =>
       ⟨(HROWS.out wz (HBR.out.trans (hz.mono HBR.out.size))).2.2.2, fun j v hv => (World.cell?_of_block (a := ⟨q2, o2 + i * 2 + j, none⟩) (hz.block q2 (Nat.lt_of_lt_of_le hq2 hbs))).trans (hr2 j v hv)⟩
     have HRA := Lib.hid hra
     have HRB := Lib.hid hrb
     clear hra hrb hr1 hr2 hq hq2 hbs hx
     go_upto_region 6 with (fail)
     clear h31 h32
     refine wp_region_held_drew (S := fun wx => Below wr.heap.size wr wx) (by kernel_rfl) (Below.refl _ _).drew (fun hHeld => ?_)
     refine wpAnyH_take (i := 0) (v := .pointer (some ⟨g, 31, none⟩)) rfl (by kernel_rfl) (by kernel_rfl) (by kernel_rfl) (fun _ _ _ h => h) (Or.inl ⟨by kernel_rfl, fun _ hS => by kernel_rfl⟩) hHeld ?_
     (try simp only [Act.put, List.getElem_toArray, List.getElem_cons_succ, List.getElem_cons_zero, List.setIfInBounds_toArray, List.set_cons_zero, List.set_cons_succ])
     refine wpAnyH_take (i := 1) (v := .slice (some ⟨q, o, none⟩) n co) rfl (by kernel_rfl) (by kernel_rfl) (by kernel_rfl) (fun _ _ _ h => h) (Or.inl ⟨by kernel_rfl, fun _ hS => ldIds_run _ rfl ⟨g, 31, none⟩ rfl _ (HRA.out _ hS).1⟩) hHeld ?_
     (try simp only [Act.put, List.getElem_toArray, List.getElem_cons_succ, List.getElem_cons_zero, List.setIfInBounds_toArray, List.set_cons_zero, List.set_cons_succ])
     refine wpAnyH_take (i := 2) (v := .int .i64 (i : Nat)) rfl (by kernel_rfl) (by kernel_rfl) (by kernel_rfl) (fun _ _ _ h => h) (Or.inl ⟨by kernel_rfl, fun _ hS => by kernel_rfl⟩) hHeld ?_
     (try simp only [Act.put, List.getElem_toArray, List.getElem_cons_succ, List.getElem_cons_zero, List.setIfInBounds_toArray, List.set_cons_zero, List.set_cons_succ])
     refine wpAnyH_take (i := 3) (v := .pointer (some ⟨q, o + i * 2, none⟩)) rfl (by kernel_rfl) (by kernel_rfl) (by kernel_rfl) (fun _ _ _ h => h) (Or.inl ⟨by kernel_rfl, fun _ hS => ix_atIo _ _ rfl q o n co i rfl rfl hi⟩) hHeld ?_
     (try simp only [Act.put, List.getElem_toArray, List.getElem_cons_succ, List.getElem_cons_zero, List.setIfInBounds_toArray, List.set_cons_zero, List.set_cons_succ])
     refine wpAnyH_take (i := 4) (v := .agg x.cs.toArray) rfl (by kernel_rfl) (by kernel_rfl) (by kernel_rfl) (fun _ _ _ h => h) (yieldsIf_load_mid (by kernel_rfl) 28 _ rfl q (o + i * 2) rfl x.cs _ (fun _ hS => (HRA.out _ hS).2) ikUnd rfl (HIK.out _)) hHeld ?_
     (try simp only [Act.put, List.getElem_toArray, List.getElem_cons_succ, List.getElem_cons_zero, List.setIfInBounds_toArray, List.set_cons_zero, List.set_cons_succ])
     refine wpAnyH_take (i := 5) (v := .pointer (some ⟨(g + 1), 31, none⟩)) rfl (by kernel_rfl) (by kernel_rfl) (by kernel_rfl) (fun _ _ _ h => h) (Or.inl ⟨by kernel_rfl, fun _ hS => by kernel_rfl⟩) hHeld ?_
     (try simp only [Act.put, List.getElem_toArray, List.getElem_cons_succ, List.getElem_cons_zero, List.setIfInBounds_toArray, List.set_cons_zero, List.set_cons_succ])
     refine wpAnyH_take (i := 6) (v := .slice (some ⟨q2, o2, none⟩) n co2) rfl (by kernel_rfl) (by kernel_rfl) (by kernel_rfl) (fun _ _ _ h => h) (Or.inl ⟨by kernel_rfl, fun _ hS => ldIds_run _ rfl ⟨(g + 1), 31, none⟩ rfl _ (HRB.out _ hS).1⟩) hHeld ?_
     (try simp only [Act.put, List.getElem_toArray, List.getElem_cons_succ, List.getElem_cons_zero, List.setIfInBounds_toArray, List.set_cons_zero, List.set_cons_succ])
     refine wpAnyH_take (i := 7) (v := .int .i64 (i : Nat)) rfl (by kernel_rfl) (by kernel_rfl) (by kernel_rfl) (fun _ _ _ h => h) (Or.inl ⟨by kernel_rfl, fun _ hS => by kernel_rfl⟩) hHeld ?_
     (try simp only [Act.put, List.getElem_toArray, List.getElem_cons_succ, List.getElem_cons_zero, List.setIfInBounds_toArray, List.set_cons_zero, List.set_cons_succ])
     refine wpAnyH_take (i := 8) (v := .pointer (some ⟨q2, o2 + i * 2, none⟩)) rfl (by kernel_rfl) (by kernel_rfl) (by kernel_rfl) (fun _ _ _ h => h) (Or.inl ⟨by kernel_rfl, fun _ hS => ix_atIo _ _ rfl q2 o2 n co2 i rfl rfl hi⟩) hHeld ?_
     (try simp only [Act.put, List.getElem_toArray, List.getElem_cons_succ, List.getElem_cons_zero, List.setIfInBounds_toArray, List.set_cons_zero, List.set_cons_succ])
     refine wpAnyH_take (i := 9) (v := .agg x.cs.toArray) rfl (by kernel_rfl) (by kernel_rfl) (by kernel_rfl) (fun _ _ _ h => h) (yieldsIf_load_mid (by kernel_rfl) 28 _ rfl q2 (o2 + i * 2) rfl x.cs _ (fun _ hS => (HRB.out _ hS).2) ikUnd rfl (HIK.out _)) hHeld ?_
     (try simp only [Act.put, List.getElem_toArray, List.getElem_cons_succ, List.getElem_cons_zero, List.setIfInBounds_toArray, List.set_cons_zero, List.set_cons_succ])
     refine wpAnyH_take (i := 10) (v := .bool false) rfl (by kernel_rfl) (by kernel_rfl) (by kernel_rfl) (fun _ _ _ h => h) (Or.inl ⟨by kernel_rfl, fun _ hS => ik_ne_run _ _ rfl x x rfl rfl (by simp)⟩) hHeld ?_
     (try simp only [Act.put, List.getElem_toArray, List.getElem_cons_succ, List.getElem_cons_zero, List.setIfInBounds_toArray, List.set_cons_zero, List.set_cons_succ])
     have HE := Lib.hid hHeld
     refine wpAnyH_done (by kernel_rfl) ?_ _
     obtain ⟨wB, hwB⟩ : ∃ x, x = wr.drew := ⟨_, rfl⟩
     rw [← hwB] at HE ⊢
     clear hHeld hwB
     go_wp2
     go_roundw
     case measure => simp [intOf]; omega
     case rel => exact ⟨i + 1, by omega, by go_num, Lib.hid (hR.out.trans (HE.out.mono hR.out.size))⟩
   · have hie : n = i := by omega
     subst hie
     have hiI : ¬ ((n : Int) < (n : Int)) := by omega
     go_wp2
     first | go_ret | go_ret2 | (refine bodyPost_ret (results_tmp rfl _ _ _) rfl ?_)
     exact ⟨by kernel_rfl, HB.out.trans (HBR.out.mono HB.out.size)⟩
/-- where the loops stand. -/
def OrI (w : World) (z0 pa pb : Nat) (l : List Wr) (n : Nat) (iv : Value) (wr : World) : Prop := ∃ i : Nat, i ≤ n ∧ iv = .int .i64 i ∧ Hid (Below w.heap.size w wr ∧ z0 ≤ wr.heap.size ∧ (∀ j (hj : j < l.length), j < i → ∀ k (hk : k < l.length), k < j → l[k].id ≠ l[j].id) ∧
  ∃ Za Zb : Nat → Prop, RgM wr pa i (playW (l.take i)) Za ∧ RgM wr pb i (playW (l.reverse.take i)) Zb ∧ (∀ b, Za b → z0 ≤ b ∧ b < wr.heap.size ∧ ¬ Zb b) ∧ ∀ b, Zb b → z0 ≤ b ∧ b < wr.heap.size)
def OrJ (W : World) (l : List Wr) (x : Ik) (i : Nat) (iv : Value) (wr : World) : Prop := ∃ j : Nat, j ≤ i ∧ iv = .int .i64 j ∧ Hid (Below W.heap.size W wr ∧ ∀ k (hk : k < l.length), k < j → l[k].id ≠ x)
end Go.Proofs.YtbiacjkkgddclaaGreat
namespace Go.Proofs.YtbiacjkkgddclaaGreat
set_option linter.unusedSimpArgs false
set_option linter.unusedVariables false
open Go Go.RowKit Go.Shelf Go.Maps

theorem chainB_step (y : Ik) (l : List Ik) (z nx : Ik) (h : nx = l.head?.getD z) : chainB (y :: l) z = (mayI y && (decide (bef y nx) && chainB l z)) := by subst h; rfl
set_option maxRecDepth 100000 in
set_option maxHeartbeats 16000000 in
theorem dated37_c (w : World) (G : Nat → Prop) (CW : Array Value) (z : Ik) (A : Option Addr) (c n : Nat) (l : List Ik) (hc : WCells CW z A n c) (hs : IkG w G A c l) (hG : ∀ k, G k → k < w.heap.size) (hn : n = l.length) :
    Calls Tryz.prog 41 #[.agg CW] w fun e w' => e = .returned (.bool (mayI z && chainB l z)) ∧ Below w.heap.size w w' := by
  obtain ⟨g, hg⟩ : ∃ g, g = w.heap.size := ⟨_, rfl⟩
  obtain ⟨W0, hW0⟩ : ∃ W, W = w.alloc (.cells CW 46) := ⟨_, rfl⟩
  obtain ⟨r, hr⟩ : ∃ r, r = chainB l z := ⟨_, rfl⟩
  have hbw : BelD w W0 := by rw [hW0]; exact bel1 _ _
  have hz0 : W0.heap.size = g + 1 := by rw [hW0, hg]; simp
  have hk0 : W0.heap[g]? = some (.cells CW 46) := by rw [hW0, hg]; exact heap_alloc_new _ _
  have hcell : ∀ wz : World, Below W0.heap.size W0 wz → wz.rangeAt g 0 [.int .i64 z.a, .int .i64 z.n] ∧ wz.cell? ⟨g, 31, none⟩ = some (.slice A n c) := fun wz hz => by
    have e := (hz.block g (by omega)).trans hk0
    refine ⟨fun i v hv => ?_, (cell_of_row _ _ 31 _ _ _ e).trans hc.i31⟩
    rw [Nat.zero_add, cell_of_row _ _ i _ _ _ e]
    match i, hv with
    | 0, hv => exact hc.i0.trans hv
    | 1, hv => exact hc.i1.trans hv
    | i + 2, hv => simp at hv
  have hcc : n ≤ c ∧ c ≤ 9223372036854775807 := ⟨by rw [hn]; exact hs.1, hs.2.1⟩
  have hrow : ∀ wz : World, Below W0.heap.size W0 wz → ∀ j (hj : j < l.length), ∃ b o, A = some ⟨b, o, none⟩ ∧ b < w.heap.size ∧ ∀ k (hk : k < l.length), wz.rangeAt b (o + k * 2) [.int .i64 l[k].a, .int .i64 l[k].n] := fun wz hz j hj => by
    obtain ⟨b, o, e, hg', -⟩ := hs.at_ j hj
    have hb : b < w.heap.size := hG b hg'
    refine ⟨b, o, e, hb, fun k hk => ?_⟩
    obtain ⟨b2, o2, e2, -, hr'⟩ := hs.at_ k hk
    have e3 := e.symm.trans e2
    simp only [Option.some.injEq, Addr.mk.injEq, and_true] at e3
    obtain ⟨rfl, rfl⟩ := e3
    exact fun i v hv => (World.cell?_of_block (a := ⟨b, o + k * 2 + i, none⟩) ((hz.block b (by omega)).trans (hbw.1.block b hb))).trans (hr' i v hv)
  have HM0 := Lib.hid (fun wx x => mayR_c wx x)
  have HIL := Lib.hid (show ∀ a b : Value, (Tryz.prog.info? 28).map (·.size) = some [a, b].length from fun _ _ => ikInfo)
  have HIS := Lib.hid (show ∀ a b : Value, (Tryz.prog.info? 28).map (·.size) = some (#[a, b] : Array Value).size from fun _ _ => ikInfo)
  have HG := Lib.hid hg
  have HW := Lib.hid hW0
  have HZ := Lib.hid hz0
  have HC := Lib.hid hcell
  have HROW := Lib.hid hrow
  have HN := Lib.hid hn
  have HBW := Lib.hid hbw
  have HR := Lib.hid hr
  have hc1 := hcc.1
  have hc2 := hcc.2
  obtain ⟨mz, hmz⟩ : ∃ m, m = mayI z := ⟨_, rfl⟩
  rw [← hr, ← hmz]
  clear hg hW0 hz0 hk0 hcell hcc hrow hn hbw hc hs hG hr
  obtain ⟨za, zn⟩ := z
  dsimp only at HC
  go_enter Tryz.func41, Tryz.ntmps41
  go_upto_region 1 with (fail)
  rw [← HW.out, ← HG.out]
  have hkz := (HC.out W0 (Below.refl _ _)).1
  cases mz with
  | false =>
    have HMZ := Lib.hid (fun wx => show Calls Tryz.prog 64 #[.agg #[.int .i64 za, .int .i64 zn]] wx fun e w' => e = .returned (.bool false) ∧ BelD wx w' from by have := HM0.out wx ⟨za, zn⟩; rwa [← hmz] at this)
    clear hmz
    go_wp2_with (first | (refine wpList_mid rfl 28 _ rfl g (0) rfl [.int .i64 za, .int .i64 zn] _ hkz ikUnd rfl (HIL.out _ _) ?_) | (go_at_call 64; refine (HMZ.out _).mono ?_; rintro e w1 ⟨rfl, hb1⟩; have HB1 := Lib.hid hb1; clear hb1) | fail)
    first | go_ret | go_ret2 | (refine bodyPost_ret (results_tmp rfl _ _ _) rfl ?_)
    exact ⟨rfl, (HBW.out.trans HB1.out).1⟩
  | true =>
  have HMZ := Lib.hid (fun wx => show Calls Tryz.prog 64 #[.agg #[.int .i64 za, .int .i64 zn]] wx fun e w' => e = .returned (.bool true) ∧ BelD wx w' from by have := HM0.out wx ⟨za, zn⟩; rwa [← hmz] at this)
  clear hmz
  go_wp2_with (first | (refine wpList_mid rfl 28 _ rfl g (0) rfl [.int .i64 za, .int .i64 zn] _ hkz ikUnd rfl (HIL.out _ _) ?_) | (go_at_call 64; refine (HMZ.out _).mono ?_; rintro e w1 ⟨rfl, hb1⟩; have HB1 := Lib.hid hb1; clear hb1) | fail)
  have hst : ∃ j : Nat, j ≤ n ∧ Value.int .i64 0 = .int .i64 j ∧ Hid (Below W0.heap.size W0 w1 ∧ chainB (l.drop j) ⟨za, zn⟩ = r) := ⟨0, Nat.zero_le _, rfl, Lib.hid ⟨HB1.out.1, by rw [List.drop_zero, HR.out]⟩⟩
  have HST := Lib.hid hst
  clear hst hkz
  go_loopw [3] (fun iv wr => ∃ j : Nat, j ≤ n ∧ iv = .int .i64 j ∧ Hid (Below W0.heap.size W0 wr ∧ chainB (l.drop j) ⟨za, zn⟩ = r)) (fun iv _ => n - (intOf iv).toNat)
  case atStart => exact HST.out
  case round =>
   obtain ⟨i, hin, rfl, hR⟩ := hrel
   have hC2 : ∀ wz, Below wr.heap.size wr wz → wz.rangeAt g 0 [.int .i64 za, .int .i64 zn] ∧ wz.cell? ⟨g, 31, none⟩ = some (.slice A n c) := fun wz hz => HC.out wz (hR.out.1.trans (hz.mono hR.out.1.size))
   have hfin : ∀ wz, Below wr.heap.size wr wz → Below w.heap.size w wz := fun wz hz => HBW.out.1.trans ((hR.out.1.trans (hz.mono hR.out.1.size)).mono HBW.out.1.size)
   have HF := Lib.hid hfin
   have HC2 := Lib.hid hC2
   have h31 := (hC2 wr (Below.refl _ _)).2
   clear hfin hC2
   by_cases hi : i < n
   · have hiI : (i : Int) < (n : Int) := by omega
     have hi0 : (0 : Int) ≤ i := by omega
     have hil : i < l.length := by rw [← HN.out]; exact hi
     obtain ⟨q, o, hA, hqw, hrg⟩ := HROW.out wr hR.out.1 i hil
     subst hA
     obtain ⟨y, hy⟩ : ∃ y, y = l[i] := ⟨_, rfl⟩
     obtain ⟨nx, hnx⟩ : ∃ x, x = (l.drop (i + 1)).head?.getD ⟨za, zn⟩ := ⟨_, rfl⟩
     have hgo := hR.out.2
     rw [List.drop_eq_getElem_cons hil, ← hy, chainB_step _ _ _ nx hnx] at hgo
     have hqr : q < wr.heap.size := by have := hR.out.1.size; have := HZ.out; have := HG.out; omega
     have hry : ∀ wz, Below wr.heap.size wr wz → wz.rangeAt q (o + i * 2) [.int .i64 y.a, .int .i64 y.n] := fun wz hz j v hv => (World.cell?_of_block (a := ⟨q, o + i * 2 + j, none⟩) (hz.block q hqr)).trans (hrg i hil j v (by rw [← hy]; exact hv))
     have hnx1 : ∀ (h : i + 1 < l.length), nx = l[i + 1] := fun h => by rw [hnx, List.drop_eq_getElem_cons h]; rfl
     have hnx2 : ¬ i + 1 < l.length → nx = ⟨za, zn⟩ := fun h => by rw [hnx, List.drop_of_length_le (by omega)]; rfl
     have hrn : ∀ (h : i + 1 < l.length) wz, Below wr.heap.size wr wz → wz.rangeAt q (o + (i + 1) * 2) [.int .i64 nx.a, .int .i64 nx.n] := fun h wz hz j v hv => (World.cell?_of_block (a := ⟨q, o + (i + 1) * 2 + j, none⟩) (hz.block q hqr)).trans (hrg (i + 1) h j v (by rw [← hnx1 h]; exact hv))
     have HY := Lib.hid hgo
     have HRY := Lib.hid hry
     have HRN := Lib.hid hrn
     have HNX2 := Lib.hid hnx2
     have hyr := hry wr (Below.refl _ _)
     clear hy hnx hgo hqr hry hnx1 hnx2 hrn hrg hqw
     obtain ⟨ya, yn⟩ := y
     obtain ⟨nxa, nxn⟩ := nx
     dsimp only at HRY HRN hyr
     cases hm : mayI ⟨ya, yn⟩ with
     | false =>
       have hf : r = false := by rw [← HY.out, hm]; rfl
       subst hf
       have HMF := Lib.hid (fun wx => show Calls Tryz.prog 64 #[.agg #[.int .i64 ya, .int .i64 yn]] wx fun e w' => e = .returned (.bool false) ∧ BelD wx w' from by have := HM0.out wx ⟨ya, yn⟩; rwa [hm] at this)
       clear hm
       go_wp2_with (first | (refine wpList_mid rfl 28 _ rfl q (o + i * 2) rfl [.int .i64 ya, .int .i64 yn] _ hyr ikUnd rfl (HIL.out _ _) ?_) | (go_at_call 64; refine (HMF.out _).mono ?_; rintro e w2 ⟨rfl, hb2⟩; have HB2 := Lib.hid hb2; clear hb2) | fail)
       first | go_ret | go_ret2 | (refine bodyPost_ret (results_tmp rfl _ _ _) rfl ?_)
       exact ⟨rfl, HF.out _ HB2.out.1⟩
     | true =>
       have HM := Lib.hid hm
       have HMF := Lib.hid (fun wx => show Calls Tryz.prog 64 #[.agg #[.int .i64 ya, .int .i64 yn]] wx fun e w' => e = .returned (.bool true) ∧ BelD wx w' from by have := HM0.out wx ⟨ya, yn⟩; rwa [hm] at this)
       clear hm
       go_upto_region 8 with (first | (refine wpList_mid rfl 28 _ rfl q (o + i * 2) rfl [.int .i64 ya, .int .i64 yn] _ hyr ikUnd rfl (HIL.out _ _) ?_) | (go_at_call 64; refine (HMF.out _).mono ?_; rintro e w2 ⟨rfl, hb2⟩; have HB2 := Lib.hid hb2.1; have hkz2 := (HC2.out w2 hb2.1).1; clear hb2) | fail)
       obtain ⟨w3, hw3⟩ : ∃ x, x = w2.alloc (.cells #[.int .i64 za, .int .i64 zn] 28) := ⟨_, rfl⟩
       obtain ⟨gb, hgb⟩ : ∃ x, x = w2.heap.size := ⟨_, rfl⟩
       have hb3 : Below w2.heap.size w2 w3 := by rw [hw3]; exact (bel1 _ _).1
       have hb23 : Below wr.heap.size wr w3 := HB2.out.trans (hb3.mono HB2.out.size)
       have hk3 : w3.heap[gb]? = some (.cells #[.int .i64 za, .int .i64 zn] 28) := by rw [hw3, hgb]; exact heap_alloc_new _ _
       have hgr : wr.heap.size ≤ gb := by rw [hgb]; exact HB2.out.size
       have HW3 := Lib.hid (And.intro hw3 hgb)
       have HB3 := Lib.hid hb23
       have HK3 := Lib.hid (And.intro hk3 hgr)
       have h313 := (HC2.out w3 hb23).2
       clear hw3 hgb hb3 hb23 hk3 hgr h31 hyr
       go_upto_region 9 with (first | (refine wpList_mid rfl 28 _ rfl g (0) rfl [.int .i64 za, .int .i64 zn] _ hkz2 ikUnd rfl (HIL.out _ _) ?_) | fail)
       rw [← HW3.out.1, ← HW3.out.2]
       clear hkz2
       by_cases hi1 : i + 1 < n
       · have hi1I : (i : Int) + 1 < (n : Int) := by omega
         have hyr3 := HRN.out (by rw [← HN.out]; exact hi1) w3 HB3.out
         have hk3 := HK3.out.1
         obtain ⟨bb, hbb⟩ : ∃ b, b = decide (bef ⟨ya, yn⟩ ⟨nxa, nxn⟩) := ⟨_, rfl⟩
         have HBF := Lib.hid (fun wx => show Calls Tryz.prog 42 #[.agg #[.int .i64 ya, .int .i64 yn], .agg #[.int .i64 nxa, .int .i64 nxn]] wx fun e w' => e = .returned (.bool bb) ∧ BelD wx w' from by rw [hbb]; exact beforeR_c wx ⟨ya, yn⟩ ⟨nxa, nxn⟩)
         have HBB := Lib.hid hbb.symm
         clear hbb
         go_upto_region 11 with (first | (refine wpList_mid rfl 28 _ rfl q (o + (i + 1) * 2) rfl [.int .i64 nxa, .int .i64 nxn] _ hyr3 ikUnd rfl (HIL.out _ _) ?_) | (refine wpList_store_row rfl 28 _ _ rfl gb #[.int .i64 nxa, .int .i64 nxn] rfl rfl 28 #[.int .i64 za, .int .i64 zn] hk3 (HIS.out _ _) rfl (ik_one _ _) ?_) | fail)
         obtain ⟨w4, hw4⟩ : ∃ x, x = w3.setRow gb #[.int .i64 nxa, .int .i64 nxn] := ⟨_, rfl⟩
         rw [← hw4]
         have hb4 : Below wr.heap.size wr w4 := by rw [hw4]; exact below_row HB3.out HK3.out.2 _
         have hk4 : w4.heap[gb]? = some (.cells #[.int .i64 nxa, .int .i64 nxn] 28) := by rw [hw4]; exact setRow_heap _ _ _ _ _ _ hk3
         have HB := Lib.hid hb4
         have H11 := Lib.hid (fun (wz : World) (hz : Below w4.heap.size w4 wz) => show wz.cell? ⟨g, 31, none⟩ = some (.slice (some ⟨q, o, none⟩) n c) ∧ wz.rangeAt q (o + i * 2) [.int .i64 ya, .int .i64 yn] ∧ wz.rangeAt gb 0 [.int .i64 nxa, .int .i64 nxn] from by
           have h := hb4.trans (hz.mono hb4.size)
           exact ⟨(HC2.out wz h).2, HRY.out wz h, ik_range ((hz.block gb (Array.getElem?_eq_some_iff.1 hk4).1).trans hk4)⟩)
         clear hw4 hb4 hk4 hk3 hyr3 h313
         refine wp_region_held_drew (S := fun wx => Below w4.heap.size w4 wx) (by kernel_rfl) (Below.refl _ _).drew (fun hHeld => ?_)
         obtain ⟨wa, hwa⟩ : ∃ x, x = w4.drew := ⟨_, rfl⟩
         rw [← hwa] at hHeld ⊢
         clear hwa
         refine wpAnyH_take (i := 0) (v := .pointer (some ⟨g, 31, none⟩)) rfl (by kernel_rfl) (by kernel_rfl) (by kernel_rfl) (fun _ _ _ h => h) (Or.inl ⟨by kernel_rfl, fun _ hS => by kernel_rfl⟩) hHeld ?_
         (try simp only [Act.put, List.getElem_toArray, List.getElem_cons_succ, List.getElem_cons_zero, List.setIfInBounds_toArray, List.set_cons_zero, List.set_cons_succ])
         refine wpAnyH_take (i := 1) (v := .slice (some ⟨q, o, none⟩) n c) rfl (by kernel_rfl) (by kernel_rfl) (by kernel_rfl) (fun _ _ _ h => h) (Or.inl ⟨by kernel_rfl, fun _ hS => ldIds_run _ rfl ⟨g, 31, none⟩ rfl _ (H11.out _ hS).1⟩) hHeld ?_
         (try simp only [Act.put, List.getElem_toArray, List.getElem_cons_succ, List.getElem_cons_zero, List.setIfInBounds_toArray, List.set_cons_zero, List.set_cons_succ])
         refine wpAnyH_take (i := 2) (v := .int .i64 (i : Nat)) rfl (by kernel_rfl) (by kernel_rfl) (by kernel_rfl) (fun _ _ _ h => h) (Or.inl ⟨by kernel_rfl, fun _ hS => by kernel_rfl⟩) hHeld ?_
         (try simp only [Act.put, List.getElem_toArray, List.getElem_cons_succ, List.getElem_cons_zero, List.setIfInBounds_toArray, List.set_cons_zero, List.set_cons_succ])
         refine wpAnyH_take (i := 3) (v := .pointer (some ⟨q, o + i * 2, none⟩)) rfl (by kernel_rfl) (by kernel_rfl) (by kernel_rfl) (fun _ _ _ h => h) (Or.inl ⟨by kernel_rfl, fun _ hS => ix_atIo _ _ rfl q o n c i rfl rfl hi⟩) hHeld ?_
         (try simp only [Act.put, List.getElem_toArray, List.getElem_cons_succ, List.getElem_cons_zero, List.setIfInBounds_toArray, List.set_cons_zero, List.set_cons_succ])
         refine wpAnyH_take (i := 4) (v := .agg #[.int .i64 ya, .int .i64 yn]) rfl (by kernel_rfl) (by kernel_rfl) (by kernel_rfl) (fun _ _ _ h => h) (yieldsIf_load_mid (by kernel_rfl) 28 _ rfl q (o + i * 2) rfl [.int .i64 ya, .int .i64 yn] _ (fun _ hS => (H11.out _ hS).2.1) ikUnd rfl (HIL.out _ _)) hHeld ?_
         (try simp only [Act.put, List.getElem_toArray, List.getElem_cons_succ, List.getElem_cons_zero, List.setIfInBounds_toArray, List.set_cons_zero, List.set_cons_succ])
         refine wpAnyH_take (i := 5) (v := .agg #[.int .i64 nxa, .int .i64 nxn]) rfl (by kernel_rfl) (by kernel_rfl) (by kernel_rfl) (fun _ _ _ h => h) (yieldsIf_load_mid (by kernel_rfl) 28 _ rfl gb 0 rfl [.int .i64 nxa, .int .i64 nxn] _ (fun _ hS => (H11.out _ hS).2.2) ikUnd rfl (HIL.out _ _)) hHeld ?_
         (try simp only [Act.put, List.getElem_toArray, List.getElem_cons_succ, List.getElem_cons_zero, List.setIfInBounds_toArray, List.set_cons_zero, List.set_cons_succ])
         refine wpAnyH_ready (rs := [6]) (by kernel_rfl) (by simp) ?_
         refine AllReadyH.cons rfl (fun K hK => ?_) AllReadyH.nil
         go_simp
         refine (HBF.out wa).mono ?_
         rintro e wb ⟨rfl, hbb⟩
         try go_simp
         have hbb2 := hHeld.trans (hbb.1.mono hHeld.size)
         refine hK.out _ _ hbb2 (fun hHeld1 => ?_)
         clear hK K hHeld hbb2
         have hHeld := hHeld1
         clear hHeld1
         (try simp only [Act.put, List.getElem_toArray, List.getElem_cons_succ, List.getElem_cons_zero, List.setIfInBounds_toArray, List.set_cons_zero, List.set_cons_succ])
         clear hbb
         refine wpAnyH_take (i := 7) (v := .bool (!bb)) rfl (by kernel_rfl) (by kernel_rfl) (by kernel_rfl) (fun _ _ _ h => h) (Or.inl ⟨by kernel_rfl, fun _ hS => by kernel_rfl⟩) hHeld ?_
         (try simp only [Act.put, List.getElem_toArray, List.getElem_cons_succ, List.getElem_cons_zero, List.setIfInBounds_toArray, List.set_cons_zero, List.set_cons_succ])
         have HE := Lib.hid hHeld
         refine wpAnyH_done (by kernel_rfl) ?_ _
         clear hHeld
         cases bb with
         | false =>
           have hf : r = false := by rw [← HY.out, HM.out, HBB.out]; rfl
           subst hf
           go_wp2
           first | go_ret | go_ret2 | (refine bodyPost_ret (results_tmp rfl _ _ _) rfl ?_)
           exact ⟨rfl, HF.out _ (HB.out.trans (HE.out.mono HB.out.size))⟩
         | true =>
           have hnx : chainB (l.drop (i + 1)) ⟨za, zn⟩ = r := by rw [← HY.out, HM.out, HBB.out]; rfl
           have HNX := Lib.hid hnx
           clear hnx
           go_wp2
           go_roundw
           case measure => simp [intOf]; omega
           case rel => exact ⟨i + 1, by omega, by go_num, Lib.hid ⟨hR.out.1.trans ((HB.out.trans (HE.out.mono HB.out.size)).mono hR.out.1.size), HNX.out⟩⟩
       · have hi1I : ¬ ((i : Int) + 1 < (n : Int)) := by omega
         have hez := HNX2.out (by rw [← HN.out]; exact hi1)
         simp only [Ik.mk.injEq] at hez
         obtain ⟨rfl, rfl⟩ := hez
         obtain ⟨bb, hbb⟩ : ∃ b, b = decide (bef ⟨ya, yn⟩ ⟨nxa, nxn⟩) := ⟨_, rfl⟩
         have HBF := Lib.hid (fun wx => show Calls Tryz.prog 42 #[.agg #[.int .i64 ya, .int .i64 yn], .agg #[.int .i64 nxa, .int .i64 nxn]] wx fun e w' => e = .returned (.bool bb) ∧ BelD wx w' from by rw [hbb]; exact beforeR_c wx ⟨ya, yn⟩ ⟨nxa, nxn⟩)
         have HBB := Lib.hid hbb.symm
         clear hbb
         go_upto_region 11 with (fail)
         have HB := Lib.hid HB3.out
         have H11 := Lib.hid (fun (wz : World) (hz : Below w3.heap.size w3 wz) => show wz.cell? ⟨g, 31, none⟩ = some (.slice (some ⟨q, o, none⟩) n c) ∧ wz.rangeAt q (o + i * 2) [.int .i64 ya, .int .i64 yn] ∧ wz.rangeAt gb 0 [.int .i64 nxa, .int .i64 nxn] from by
           have h := HB3.out.trans (hz.mono HB3.out.size)
           exact ⟨(HC2.out wz h).2, HRY.out wz h, ik_range ((hz.block gb (Array.getElem?_eq_some_iff.1 HK3.out.1).1).trans HK3.out.1)⟩)
         clear h313
         refine wp_region_held_drew (S := fun wx => Below w3.heap.size w3 wx) (by kernel_rfl) (Below.refl _ _).drew (fun hHeld => ?_)
         obtain ⟨wa, hwa⟩ : ∃ x, x = w3.drew := ⟨_, rfl⟩
         rw [← hwa] at hHeld ⊢
         clear hwa
         refine wpAnyH_take (i := 0) (v := .pointer (some ⟨g, 31, none⟩)) rfl (by kernel_rfl) (by kernel_rfl) (by kernel_rfl) (fun _ _ _ h => h) (Or.inl ⟨by kernel_rfl, fun _ hS => by kernel_rfl⟩) hHeld ?_
         (try simp only [Act.put, List.getElem_toArray, List.getElem_cons_succ, List.getElem_cons_zero, List.setIfInBounds_toArray, List.set_cons_zero, List.set_cons_succ])
         refine wpAnyH_take (i := 1) (v := .slice (some ⟨q, o, none⟩) n c) rfl (by kernel_rfl) (by kernel_rfl) (by kernel_rfl) (fun _ _ _ h => h) (Or.inl ⟨by kernel_rfl, fun _ hS => ldIds_run _ rfl ⟨g, 31, none⟩ rfl _ (H11.out _ hS).1⟩) hHeld ?_
         (try simp only [Act.put, List.getElem_toArray, List.getElem_cons_succ, List.getElem_cons_zero, List.setIfInBounds_toArray, List.set_cons_zero, List.set_cons_succ])
         refine wpAnyH_take (i := 2) (v := .int .i64 (i : Nat)) rfl (by kernel_rfl) (by kernel_rfl) (by kernel_rfl) (fun _ _ _ h => h) (Or.inl ⟨by kernel_rfl, fun _ hS => by kernel_rfl⟩) hHeld ?_
         (try simp only [Act.put, List.getElem_toArray, List.getElem_cons_succ, List.getElem_cons_zero, List.setIfInBounds_toArray, List.set_cons_zero, List.set_cons_succ])
         refine wpAnyH_take (i := 3) (v := .pointer (some ⟨q, o + i * 2, none⟩)) rfl (by kernel_rfl) (by kernel_rfl) (by kernel_rfl) (fun _ _ _ h => h) (Or.inl ⟨by kernel_rfl, fun _ hS => ix_atIo _ _ rfl q o n c i rfl rfl hi⟩) hHeld ?_
         (try simp only [Act.put, List.getElem_toArray, List.getElem_cons_succ, List.getElem_cons_zero, List.setIfInBounds_toArray, List.set_cons_zero, List.set_cons_succ])
         refine wpAnyH_take (i := 4) (v := .agg #[.int .i64 ya, .int .i64 yn]) rfl (by kernel_rfl) (by kernel_rfl) (by kernel_rfl) (fun _ _ _ h => h) (yieldsIf_load_mid (by kernel_rfl) 28 _ rfl q (o + i * 2) rfl [.int .i64 ya, .int .i64 yn] _ (fun _ hS => (H11.out _ hS).2.1) ikUnd rfl (HIL.out _ _)) hHeld ?_
         (try simp only [Act.put, List.getElem_toArray, List.getElem_cons_succ, List.getElem_cons_zero, List.setIfInBounds_toArray, List.set_cons_zero, List.set_cons_succ])
         refine wpAnyH_take (i := 5) (v := .agg #[.int .i64 nxa, .int .i64 nxn]) rfl (by kernel_rfl) (by kernel_rfl) (by kernel_rfl) (fun _ _ _ h => h) (yieldsIf_load_mid (by kernel_rfl) 28 _ rfl gb 0 rfl [.int .i64 nxa, .int .i64 nxn] _ (fun _ hS => (H11.out _ hS).2.2) ikUnd rfl (HIL.out _ _)) hHeld ?_
         (try simp only [Act.put, List.getElem_toArray, List.getElem_cons_succ, List.getElem_cons_zero, List.setIfInBounds_toArray, List.set_cons_zero, List.set_cons_succ])
         refine wpAnyH_ready (rs := [6]) (by kernel_rfl) (by simp) ?_
         refine AllReadyH.cons rfl (fun K hK => ?_) AllReadyH.nil
         go_simp
         refine (HBF.out wa).mono ?_
         rintro e wb ⟨rfl, hbb⟩
         try go_simp
         have hbb2 := hHeld.trans (hbb.1.mono hHeld.size)
         refine hK.out _ _ hbb2 (fun hHeld1 => ?_)
         clear hK K hHeld hbb2
         have hHeld := hHeld1
         clear hHeld1
         (try simp only [Act.put, List.getElem_toArray, List.getElem_cons_succ, List.getElem_cons_zero, List.setIfInBounds_toArray, List.set_cons_zero, List.set_cons_succ])
         clear hbb
         refine wpAnyH_take (i := 7) (v := .bool (!bb)) rfl (by kernel_rfl) (by kernel_rfl) (by kernel_rfl) (fun _ _ _ h => h) (Or.inl ⟨by kernel_rfl, fun _ hS => by kernel_rfl⟩) hHeld ?_
         (try simp only [Act.put, List.getElem_toArray, List.getElem_cons_succ, List.getElem_cons_zero, List.setIfInBounds_toArray, List.set_cons_zero, List.set_cons_succ])
         have HE := Lib.hid hHeld
         refine wpAnyH_done (by kernel_rfl) ?_ _
         clear hHeld
         cases bb with
         | false =>
           have hf : r = false := by rw [← HY.out, HM.out, HBB.out]; rfl
           subst hf
           go_wp2
           first | go_ret | go_ret2 | (refine bodyPost_ret (results_tmp rfl _ _ _) rfl ?_)
           exact ⟨rfl, HF.out _ (HB.out.trans (HE.out.mono HB.out.size))⟩
         | true =>
           have hnx : chainB (l.drop (i + 1)) ⟨nxa, nxn⟩ = r := by rw [← HY.out, HM.out, HBB.out]; rfl
           have HNX := Lib.hid hnx
           clear hnx
           go_wp2
           go_roundw
           case measure => simp [intOf]; omega
           case rel => exact ⟨i + 1, by omega, by go_num, Lib.hid ⟨hR.out.1.trans ((HB.out.trans (HE.out.mono HB.out.size)).mono hR.out.1.size), HNX.out⟩⟩
   · have hie : n = i := by omega
     subst hie
     have hiI : ¬ ((n : Int) < (n : Int)) := by omega
     have hgo := hR.out.2
     rw [List.drop_of_length_le (by rw [← HN.out]; exact Nat.le_refl _)] at hgo
     have hf : r = true := hgo.symm
     subst hf
     clear hgo
     go_wp2
     first | go_ret | go_ret2 | (refine bodyPost_ret (results_tmp rfl _ _ _) rfl ?_)
     exact ⟨rfl, HF.out _ (Below.refl _ _)⟩
end Go.Proofs.YtbiacjkkgddclaaGreat
