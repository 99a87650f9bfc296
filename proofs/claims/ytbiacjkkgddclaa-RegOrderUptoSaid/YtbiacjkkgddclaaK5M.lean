/- The reference's Same of equal writes; what RegOrder's walk needs. -/
import Derived.Test.YtbiacjkkgddclaaK0K3
import Derived.Test.YtbiacjkkgddclaaXmJ7Xa1
namespace Go.Proofs.Ytbiacjkkgddclaa
set_option linter.unusedSimpArgs false
set_option linter.unusedVariables false
open Go Go.RowKit Go.Shelf Go.Maps

theorem ldIds_run {o : Oper} {ρ : Operand → Value} {w : World} (x : Operand) (ho : o.op = .load 23 x) (p : Addr) (hx : ρ x = .pointer (some p)) (v : Value) (hc : w.cell? p = some v) : (execOp ρ o).run Try.prog w = .ok (.value v) w := by
  unfold execOp
  simp only [ho, hx]
  simp [go_sem, hc]
theorem ix_at37 {o : Oper} {ρ : Operand → Value} {w : World} (x y : Operand) (ho : o.op = .indexAddr 22 x y) (g of ln cap i : Nat) (hx : ρ x = .slice (some ⟨g, of, none⟩) ln cap) (hy : ρ y = .int .i64 i) (hi : i < ln) : (execOp ρ o).run Try.prog w = .ok (.value (.pointer (some ⟨g, of + i * 32, none⟩))) w := by
  have h1 : (0 : Int) ≤ i := by omega
  have h2 : (i : Int) < ln := by omega
  unfold execOp
  simp only [ho, hx, hy]
  simp [go_sem, h1, h2]
theorem ix_at37r {o : Oper} {ρ : Operand → Value} {w : World} (x y : Operand) (ho : o.op = .indexAddr 52 x y) (g of ln cap i : Nat) (hx : ρ x = .slice (some ⟨g, of, none⟩) ln cap) (hy : ρ y = .int .i64 i) (hi : i < ln) : (execOp ρ o).run Try.prog w = .ok (.value (.pointer (some ⟨g, of + i * 32, none⟩))) w := by
  have h1 : (0 : Int) ≤ i := by omega
  have h2 : (i : Int) < ln := by omega
  unfold execOp
  simp only [ho, hx, hy]
  simp [go_sem, h1, h2]
set_option maxRecDepth 100000 in
set_option maxHeartbeats 16000000 in
theorem same37_c (w : World) (B : Nat) (m : Wr) (A A' : Option Addr) (c c' : Nat) (Ao Ao2 : Option Addr) (co co2 : Nat) (hd : m.x.t.d.ok) (hs : SlAt w B A c m.x.t.l) (hs' : SlAt w B A' c' m.x.t.l) (ho : IkG w (fun k => k < B) Ao co m.o) (ho' : IkG w (fun k => k < B) Ao2 co2 m.o) (hB : B ≤ w.heap.size) (hl : m.o.length ≤ 100000) :
    Calls Try.prog 16 #[.agg (wrA m A c Ao co), .agg (wrA m A' c' Ao2 co2)] w fun e w' => e = .returned (.bool true) ∧ Below w.heap.size w w' := by
  obtain ⟨n, hn⟩ : ∃ n, n = m.o.length := ⟨_, rfl⟩
  obtain ⟨C1, hC1⟩ : ∃ C, C = wrA m A c Ao co := ⟨_, rfl⟩
  obtain ⟨C2, hC2⟩ : ∃ C, C = wrA m A' c' Ao2 co2 := ⟨_, rfl⟩
  obtain ⟨X1, hX1⟩ : ∃ C, C = contA m.x A c := ⟨_, rfl⟩
  obtain ⟨X2, hX2⟩ : ∃ C, C = contA m.x A' c' := ⟨_, rfl⟩
  obtain ⟨g, hg⟩ : ∃ g, g = w.heap.size := ⟨_, rfl⟩
  obtain ⟨W0, hW0⟩ : ∃ W, W = (w.alloc (.cells C1 44)).alloc (.cells C2 44) := ⟨_, rfl⟩
  have hb : Below w.heap.size w W0 := by rw [hW0]; exact (bel2 _ _ _).1
  have hk0 : W0.heap[g]? = some (.cells C1 44) := by rw [hW0, hg]; exact (heapOld _ _ _ (by simp)).trans (heap_alloc_new _ _)
  have hk1 : W0.heap[g + 1]? = some (.cells C2 44) := by
    rw [hW0, hg]
    have := heap_alloc_new (w.alloc (.cells C1 44)) (.cells C2 44)
    rwa [World.size_alloc] at this
  have hrows : ∀ wz, Below W0.heap.size W0 wz → (wz.rangeAt g 0 [.int .i64 m.id.a, .int .i64 m.id.n] ∧ wz.rangeAt g 2 X1.toList ∧ wz.cell? ⟨g, 31, none⟩ = some (.slice Ao n co)) ∧ (wz.rangeAt (g + 1) 0 [.int .i64 m.id.a, .int .i64 m.id.n] ∧ wz.rangeAt (g + 1) 2 X2.toList ∧ wz.cell? ⟨(g + 1), 31, none⟩ = some (.slice Ao2 n co2)) := fun wz hz => by
    have e0 := wr_rows (by rw [← hC1]; exact (hz.block g (Array.getElem?_eq_some_iff.1 hk0).1).trans hk0)
    have e1 := wr_rows (by rw [← hC2]; exact (hz.block (g + 1) (Array.getElem?_eq_some_iff.1 hk1).1).trans hk1)
    rw [hX1, hX2, hn]
    exact ⟨⟨e0.1, e0.2.1, e0.2.2.2.1⟩, ⟨e1.1, e1.2.1, e1.2.2.2.1⟩⟩
  have hsm : ∀ wz, Below W0.heap.size W0 wz → Calls Try.prog 14 #[.agg X1, .agg X2] wz fun e w' => e = .returned (.bool true) ∧ Below wz.heap.size wz w' := fun wz hz => by
    have hbz : Below w.heap.size w wz := hb.trans (hz.mono hb.size)
    have h := rcsame_c m.x m.x wz B A A' c c' hd (hs.below (hbz.mono hB)) hd (hs'.below (hbz.mono hB)) (Nat.le_trans hB hbz.size)
    rw [sameC_self] at h
    unfold contV at h
    rw [← hX1, ← hX2] at h
    exact h
  have hids : ∀ wz, Below W0.heap.size W0 wz → ∀ i (hi : i < m.o.length), ∃ q o q2 o2, Ao = some ⟨q, o, none⟩ ∧ Ao2 = some ⟨q2, o2, none⟩ ∧ q < B ∧ q2 < B ∧ wz.rangeAt q (o + i * 2) m.o[i].cs ∧ wz.rangeAt q2 (o2 + i * 2) m.o[i].cs := fun wz hz i hi => by
    have hbz : Below w.heap.size w wz := hb.trans (hz.mono hb.size)
    obtain ⟨q, o, e1, e2, e3⟩ := (ho.below (hbz.mono hB)).at_ i hi
    obtain ⟨q2, o2, e4, e5, e6⟩ := (ho'.below (hbz.mono hB)).at_ i hi
    exact ⟨q, o, q2, o2, e1, e4, e2, e5, e3, e6⟩
  have hBW : B ≤ W0.heap.size := Nat.le_trans hB hb.size
  have hze : ∀ w : World, (Op.equalIn 10000 29 (.agg #[.int .i64 m.id.a, .int .i64 m.id.n]) (.agg #[.int .i64 m.id.a, .int .i64 m.id.n])).run Try.prog w = .ok true w := fun w => by rw [eqI]; simp
  have HIK := Lib.hid (show ∀ x : Ik, (Try.prog.info? 29).map (·.size) = some x.cs.length from fun _ => ikInfo)
  have HIL := Lib.hid (show ∀ a b : Value, (Try.prog.info? 29).map (·.size) = some [a, b].length from fun _ _ => ikInfo)
  have HC1 := Lib.hid (show (Try.prog.info? 42).map (·.size) = some X1.toList.length from by rw [hX1]; exact infC)
  have HC2 := Lib.hid (show (Try.prog.info? 42).map (·.size) = some X2.toList.length from by rw [hX2]; exact infC)
  have HROWS := Lib.hid hrows
  have HSM := Lib.hid hsm
  have HIDS := Lib.hid hids
  have HB := Lib.hid hb
  have HBW := Lib.hid hBW
  have HW := Lib.hid hW0
  have HG := Lib.hid hg
  have HN := Lib.hid hn
  have hn6 : n ≤ 100000 := by rw [hn]; exact hl
  rw [← hC1, ← hC2]
  clear hrows hsm hids hb hBW hW0 hg hn hk0 hk1 hC1 hC2 hX1 hX2 hd hs hs' ho ho' hB hl
  go_enter Try.func16, Try.ntmps16
  go_upto_region 1 with (fail)
  change Code.wp _ _ _ _ ((w.alloc (.cells C1 44)).alloc (.cells C2 44))
  rw [← HW.out, ← HG.out]
  have q0 := HROWS.out W0 (Below.refl _ _)
  go_upto_region 3 with (first | (refine wpList_mid rfl 29 _ rfl g 0 rfl [.int .i64 m.id.a, .int .i64 m.id.n] _ q0.1.1 ikUnd rfl (HIL.out _ _) ?_) | (refine wpList_mid rfl 29 _ rfl (g + 1) 0 rfl [.int .i64 m.id.a, .int .i64 m.id.n] _ q0.2.1 ikUnd rfl (HIL.out _ _) ?_) | (refine wpList_mid rfl 42 _ rfl g 2 rfl X1.toList _ q0.1.2.1 undC rfl HC1.out ?_; simp only [Array.toArray_toList]) | (refine wpList_mid rfl 42 _ rfl (g + 1) 2 rfl X2.toList _ q0.2.2.1 undC rfl HC2.out ?_; simp only [Array.toArray_toList]) | (go_at_call 14; refine (HSM.out W0 (Below.refl _ _)).mono ?_; rintro e w1 ⟨rfl, hb1⟩; have h31 := (HROWS.out w1 hb1).1.2.2; have h32 := (HROWS.out w1 hb1).2.2.2; have HB1 := Lib.hid hb1; clear hb1) | fail)
  clear h31 h32 q0 hze
  have hst : MoK w1 n (.int .i64 0) w1 := ⟨0, Nat.zero_le _, rfl, Lib.hid (Below.refl _ _)⟩
  have HST := Lib.hid hst
  clear hst
  go_wp2
  go_loopw [5] (fun iv wr => MoK w1 n iv wr) (fun iv _ => n - (intOf iv).toNat)
  case atStart => exact HST.out
  case round =>
   obtain ⟨i, hin, rfl, hR⟩ := hrel
   have hbr : Below W0.heap.size W0 wr := HB1.out.trans (hR.out.mono HB1.out.size)
   have h31 := (HROWS.out wr hbr).1.2.2
   have h32 := (HROWS.out wr hbr).2.2.2
   have HBR := Lib.hid hbr
   clear hbr
   by_cases hi : i < n
   · have hiI : (i : Int) < (n : Int) := by omega
     have hi0 : (0 : Int) ≤ i := by omega
     obtain ⟨q, o, q2, o2, hA1, hA2, hq, hq2, hr1, hr2⟩ := HIDS.out wr HBR.out i (by rw [← HN.out]; exact hi)
     obtain ⟨x, hx⟩ : ∃ x, x = m.o[i]'(by rw [← HN.out]; exact hi) := ⟨_, rfl⟩
     rw [← hx] at hr1 hr2
     subst hA1
     subst hA2
     have hbs : B ≤ wr.heap.size := Nat.le_trans HBW.out HBR.out.size
     have hra : ∀ wz, Below wr.heap.size wr wz → wz.cell? ⟨g, 31, none⟩ = some (.slice (some ⟨q, o, none⟩) n co) ∧ wz.rangeAt q (o + i * 2) x.cs := fun wz hz =>
       ⟨(HROWS.out wz (HBR.out.trans (hz.mono HBR.out.size))).1.2.2, fun j v hv => (World.cell?_of_block (a := ⟨q, o + i * 2 + j, none⟩) (hz.block q (Nat.lt_of_lt_of_le hq hbs))).trans (hr1 j v hv)⟩
     have hrb : ∀ wz, Below wr.heap.size wr wz → wz.cell? ⟨g + 1, 31, none⟩ = some (.slice (some ⟨q2, o2, none⟩) n co2) ∧ wz.rangeAt q2 (o2 + i * 2) x.cs := fun wz hz =>
       ⟨(HROWS.out wz (HBR.out.trans (hz.mono HBR.out.size))).2.2.2, fun j v hv => (World.cell?_of_block (a := ⟨q2, o2 + i * 2 + j, none⟩) (hz.block q2 (Nat.lt_of_lt_of_le hq2 hbs))).trans (hr2 j v hv)⟩
     have HRA := Lib.hid hra
     have HRB := Lib.hid hrb
     clear hra hrb hr1 hr2 hq hq2 hbs hx
     go_upto_region 6 with (fail)
     clear h31 h32
     refine wp_region_held_drew (S := fun wx => Below wr.heap.size wr wx) (by kernel_rfl) (Below.refl _ _).drew (fun hHeld => ?_)
     refine wpAnyH_take (i := 0) (v := .pointer (some ⟨g, 31, none⟩)) rfl (by kernel_rfl) (by kernel_rfl) (by kernel_rfl) (fun _ _ _ h => h) (Or.inl ⟨by kernel_rfl, fun _ hS => by kernel_rfl⟩) hHeld ?_
     (try simp only [Act.put, List.getElem_toArray, List.getElem_cons_succ, List.getElem_cons_zero, List.setIfInBounds_toArray, List.set_cons_zero, List.set_cons_succ])
     refine wpAnyH_take (i := 1) (v := .slice (some ⟨q, o, none⟩) n co) rfl (by kernel_rfl) (by kernel_rfl) (by kernel_rfl) (fun _ _ _ h => h) (Or.inl ⟨by kernel_rfl, fun _ hS => ldIds_run _ rfl ⟨g, 31, none⟩ rfl _ (HRA.out _ hS).1⟩) hHeld ?_
     (try simp only [Act.put, List.getElem_toArray, List.getElem_cons_succ, List.getElem_cons_zero, List.setIfInBounds_toArray, List.set_cons_zero, List.set_cons_succ])
     refine wpAnyH_take (i := 2) (v := .int .i64 (i : Nat)) rfl (by kernel_rfl) (by kernel_rfl) (by kernel_rfl) (fun _ _ _ h => h) (Or.inl ⟨by kernel_rfl, fun _ hS => by kernel_rfl⟩) hHeld ?_
     (try simp only [Act.put, List.getElem_toArray, List.getElem_cons_succ, List.getElem_cons_zero, List.setIfInBounds_toArray, List.set_cons_zero, List.set_cons_succ])
     refine wpAnyH_take (i := 3) (v := .pointer (some ⟨q, o + i * 2, none⟩)) rfl (by kernel_rfl) (by kernel_rfl) (by kernel_rfl) (fun _ _ _ h => h) (Or.inl ⟨by kernel_rfl, fun _ hS => ix_atIo _ _ rfl q o n co i rfl rfl hi⟩) hHeld ?_
     (try simp only [Act.put, List.getElem_toArray, List.getElem_cons_succ, List.getElem_cons_zero, List.setIfInBounds_toArray, List.set_cons_zero, List.set_cons_succ])
     refine wpAnyH_take (i := 4) (v := .agg x.cs.toArray) rfl (by kernel_rfl) (by kernel_rfl) (by kernel_rfl) (fun _ _ _ h => h) (yieldsIf_load_mid (by kernel_rfl) 29 _ rfl q (o + i * 2) rfl x.cs _ (fun _ hS => (HRA.out _ hS).2) ikUnd rfl (HIK.out _)) hHeld ?_
     (try simp only [Act.put, List.getElem_toArray, List.getElem_cons_succ, List.getElem_cons_zero, List.setIfInBounds_toArray, List.set_cons_zero, List.set_cons_succ])
     refine wpAnyH_take (i := 5) (v := .pointer (some ⟨(g + 1), 31, none⟩)) rfl (by kernel_rfl) (by kernel_rfl) (by kernel_rfl) (fun _ _ _ h => h) (Or.inl ⟨by kernel_rfl, fun _ hS => by kernel_rfl⟩) hHeld ?_
     (try simp only [Act.put, List.getElem_toArray, List.getElem_cons_succ, List.getElem_cons_zero, List.setIfInBounds_toArray, List.set_cons_zero, List.set_cons_succ])
     refine wpAnyH_take (i := 6) (v := .slice (some ⟨q2, o2, none⟩) n co2) rfl (by kernel_rfl) (by kernel_rfl) (by kernel_rfl) (fun _ _ _ h => h) (Or.inl ⟨by kernel_rfl, fun _ hS => ldIds_run _ rfl ⟨(g + 1), 31, none⟩ rfl _ (HRB.out _ hS).1⟩) hHeld ?_
     (try simp only [Act.put, List.getElem_toArray, List.getElem_cons_succ, List.getElem_cons_zero, List.setIfInBounds_toArray, List.set_cons_zero, List.set_cons_succ])
     refine wpAnyH_take (i := 7) (v := .int .i64 (i : Nat)) rfl (by kernel_rfl) (by kernel_rfl) (by kernel_rfl) (fun _ _ _ h => h) (Or.inl ⟨by kernel_rfl, fun _ hS => by kernel_rfl⟩) hHeld ?_
     (try simp only [Act.put, List.getElem_toArray, List.getElem_cons_succ, List.getElem_cons_zero, List.setIfInBounds_toArray, List.set_cons_zero, List.set_cons_succ])
     refine wpAnyH_take (i := 8) (v := .pointer (some ⟨q2, o2 + i * 2, none⟩)) rfl (by kernel_rfl) (by kernel_rfl) (by kernel_rfl) (fun _ _ _ h => h) (Or.inl ⟨by kernel_rfl, fun _ hS => ix_atIo _ _ rfl q2 o2 n co2 i rfl rfl hi⟩) hHeld ?_
     (try simp only [Act.put, List.getElem_toArray, List.getElem_cons_succ, List.getElem_cons_zero, List.setIfInBounds_toArray, List.set_cons_zero, List.set_cons_succ])
     refine wpAnyH_take (i := 9) (v := .agg x.cs.toArray) rfl (by kernel_rfl) (by kernel_rfl) (by kernel_rfl) (fun _ _ _ h => h) (yieldsIf_load_mid (by kernel_rfl) 29 _ rfl q2 (o2 + i * 2) rfl x.cs _ (fun _ hS => (HRB.out _ hS).2) ikUnd rfl (HIK.out _)) hHeld ?_
     (try simp only [Act.put, List.getElem_toArray, List.getElem_cons_succ, List.getElem_cons_zero, List.setIfInBounds_toArray, List.set_cons_zero, List.set_cons_succ])
     refine wpAnyH_take (i := 10) (v := .bool false) rfl (by kernel_rfl) (by kernel_rfl) (by kernel_rfl) (fun _ _ _ h => h) (Or.inl ⟨by kernel_rfl, fun _ hS => ik_ne_run _ _ rfl x x rfl rfl (by simp)⟩) hHeld ?_
     (try simp only [Act.put, List.getElem_toArray, List.getElem_cons_succ, List.getElem_cons_zero, List.setIfInBounds_toArray, List.set_cons_zero, List.set_cons_succ])
     have HE := Lib.hid hHeld
     refine wpAnyH_done (by kernel_rfl) ?_ _
     obtain ⟨wB, hwB⟩ : ∃ x, x = wr.drew := ⟨_, rfl⟩
     rw [← hwB] at HE ⊢
     clear hHeld hwB
     go_wp2
     go_roundw
     case measure => simp [intOf]; omega
     case rel => exact ⟨i + 1, by omega, by go_num, Lib.hid (hR.out.trans (HE.out.mono hR.out.size))⟩
   · have hie : n = i := by omega
     subst hie
     have hiI : ¬ ((n : Int) < (n : Int)) := by omega
     go_wp2
     first | go_ret | go_ret2 | (refine bodyPost_ret (results_tmp rfl _ _ _) rfl ?_)
     exact ⟨by kernel_rfl, HB.out.trans (HBR.out.mono HB.out.size)⟩
/-- a row of writes that came in, and is not empty, in later worlds. -/
theorem row_at2 {w : World} {A : Option Addr} {c : Nat} {l : List Wr} (h : RowW w (fun k => k < w.heap.size) (fun k => k < w.heap.size) A c l) (hl : 0 < l.length) : ∃ b o, A = some ⟨b, o, none⟩ ∧ ∀ wz : World, Below w.heap.size w wz → ∀ j (hj : j < l.length), ∃ A' c' Ao co, wz.rangeAt b (o + j * 32) (wrA l[j] A' c' Ao co).toList ∧ SlAt wz w.heap.size A' c' l[j].x.t.l ∧ IkG wz (fun k => k < w.heap.size) Ao co l[j].o := by
  obtain ⟨b, o, e, -⟩ := row_at h w (Below.refl _ _) 0 hl
  refine ⟨b, o, e, fun wz hz j hj => ?_⟩
  obtain ⟨b', o', e', r⟩ := row_at h wz hz j hj
  rw [e] at e'
  simp only [Option.some.injEq, Addr.mk.injEq, and_true] at e'
  obtain ⟨rfl, rfl⟩ := e'
  exact r
/-- where the loops stand. -/
def OrI (w : World) (z0 pa pb : Nat) (l : List Wr) (n : Nat) (iv : Value) (wr : World) : Prop := ∃ i : Nat, i ≤ n ∧ iv = .int .i64 i ∧ Hid (Below w.heap.size w wr ∧ z0 ≤ wr.heap.size ∧ (∀ j (hj : j < l.length), j < i → ∀ k (hk : k < l.length), k < j → l[k].id ≠ l[j].id) ∧
  ∃ Za Zb : Nat → Prop, RgM wr pa i (playW (l.take i)) Za ∧ RgM wr pb i (playW (l.reverse.take i)) Zb ∧ (∀ b, Za b → z0 ≤ b ∧ b < wr.heap.size ∧ ¬ Zb b) ∧ ∀ b, Zb b → z0 ≤ b ∧ b < wr.heap.size)
def OrJ (W : World) (l : List Wr) (x : Ik) (i : Nat) (iv : Value) (wr : World) : Prop := ∃ j : Nat, j ≤ i ∧ iv = .int .i64 j ∧ Hid (Below W.heap.size W wr ∧ ∀ k (hk : k < l.length), k < j → l[k].id ≠ x)
theorem order_nodup {l : List Wr} (h : ∀ j (hj : j < l.length), ∀ k (hk : k < l.length), k < j → l[k].id ≠ l[j].id) : (idsW l).Nodup := by
  unfold idsW List.Nodup
  rw [List.pairwise_iff_getElem]
  intro i j hi hj hij
  rw [List.getElem_map, List.getElem_map]
  exact h j (by simpa using hj) i (by simpa using hi) hij
end Go.Proofs.Ytbiacjkkgddclaa
