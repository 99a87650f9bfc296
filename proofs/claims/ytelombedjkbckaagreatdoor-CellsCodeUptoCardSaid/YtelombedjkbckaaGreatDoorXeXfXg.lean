/- Get of a store of cells. Put of a store of cells: a value. Put of a store of cells that has no map: a value. -/
import Derived.Test.YtelombedjkbckaaGreatDoorXcXd
import Derived.Test.YtelombedjkbckaaGreatDoorNwZnCuRh
namespace Go.Proofs.YtelombedjkbckaaGreatDoor
open Go Go.RowKit Go.Shelf Go.Maps

theorem zero_cont (w : World) : (zeroValue 43).run Tryz.prog w = .ok (contV zCt none 0) w := by kernel_rfl
theorem infCell : (Tryz.prog.info? 30).map (·.size) = some 4 := by kernel_rfl
theorem ad_range {w : World} {g : Nat} {ra rn ca cn : Int} {t : TypeId} {fr : Nat × Nat} (h : w.heap[g]? = some (.cells #[.int .i64 ra, .int .i64 rn, .int .i64 ca, .int .i64 cn] t fr)) : w.rangeAt g 0 [.int .i64 ra, .int .i64 rn, .int .i64 ca, .int .i64 cn] :=
  row_range_ h _ _ (fun j v hv => by rw [Nat.zero_add]; simpa using hv)
/-- what a look-up gives. -/
theorem look_st {W : World} {p : Nat} {m : Option Nat} {n : Nat} {D : DataW Value} (h : StAt W p m n D) (a : Ad) (ha : a.ok) : ∃ cs : Array Value, (Instr.lookup 60 (.map m) a.val true).run Tryz.prog W = .ok (.tuple #[.agg cs, .bool (Maps.has D a.key)]) W ∧ D.atKey a.key (.held (contV zCt none 0)) = .held (.agg cs) ∧ cs.size = 29 ∧ cs.all (·.oneCell') = true := by
  have h2 := h.2
  cases m with
  | none =>
    obtain rfl : D = .map [] := h2
    exact ⟨contA zCt none 0, Maps.look_nil true cell_law undMp (zero_cont W) (key_eq a ha), rfl, rfl, cont_one _ _ _⟩
  | some b =>
    have ho : W.ownsMap Tryz.prog 30 heldR b n D := h2
    obtain ⟨v, ps, hr, hv⟩ := ho.look_ok cell_law undMp (zero_cont W) (zd := .held (contV zCt none 0)) (zp := []) (heldR_cont _ _ _) (key_eq a ha)
    obtain ⟨cs, rfl, h1, h2, h3⟩ := heldR_inv hv
    exact ⟨cs, hr, h3, h1, h2⟩
theorem lk_run {o : Oper} {ρ : Operand → Value} {w : World} (x y : Operand) (ho : o.op = .lookup 60 x y true) {mv kv v : Value} (hx : ρ x = mv) (hy : ρ y = kv) (hr : (Instr.lookup 60 mv kv true).run Tryz.prog w = .ok v w) : (execOp ρ o).run Tryz.prog w = .ok (.value v) w := by
  unfold execOp
  simp only [ho, hx, hy, Sem.run_bind, hr, Result.andThen_ok, Sem.run_pure]
theorem ld_mp {o : Oper} {ρ : Operand → Value} {w : World} (x : Operand) (ho : o.op = .load 60 x) (p : Addr) (hx : ρ x = .pointer (some p)) (v : Value) (hc : w.cell? p = some v) : (execOp ρ o).run Tryz.prog w = .ok (.value v) w := by
  unfold execOp
  simp only [ho, hx]
  simp [go_sem, hc]
section
variable {md : Region.Mode} {ops : Array Oper} {Q : Exit → Act → World → Prop} {S : World → Prop}
theorem wp_run {P : Program} {o : Oper} {a : Act} {w w' : World} {v : Value} {K : Act → World → Prop} (hr : (execOp a.eval o).run P w = .ok (.value v) w') (h : K (a.put o.dst v) w') : Oper.wp P o a w K Q := by
  simp only [Oper.wp, hr, Oper.upon]; exact h
/-- a variable for a content is laid, where nothing else may come up. -/
theorem wpAnyH_contVar {i : Nat} {o : Oper} {fuel : Nat} {listed : Array Bool} {a : Act} {w : World} (hr : Region.ready md ops listed = [i]) (ho : ops[i]? = some o) (hg : o.guard = none) (hop : o.op = .alloc 43) (g : Nat) (hz : w.heap.size = g)
    (hS : S (w.alloc (.cells (contA zCt none 0) 43))) (h : S (w.alloc (.cells (contA zCt none 0) 43)) → wpAnyH Tryz.prog md ops Q S fuel (listed.setIfInBounds i true) (a.put o.dst (.pointer (some ⟨g, 0, none⟩))) (w.alloc (.cells (contA zCt none 0) 43))) : wpAnyH Tryz.prog md ops Q S (fuel + 1) listed a w := by
  subst hz
  refine wpAnyH_ready hr (by simp) (AllReadyH.cons ho (fun K hK => ?_) AllReadyH.nil)
  rw [if_pos (wanted_none hg)]
  refine wp_run ?_ (hK.out _ _ hS h)
  unfold execOp
  simp only [hop]
  kernel_rfl
/-- it is written, where nothing else may come up. -/
theorem wpAnyH_storeFresh {i : Nat} {o : Oper} {fuel : Nat} {listed : Array Bool} {a : Act} {w : World} {old : Array Value} {t : TypeId} (hr : Region.ready md ops listed = [i]) (ho : ops[i]? = some o) (hg : o.guard = none) (ty : TypeId) (x y : Operand) (hop : o.op = .store ty x y)
    (g : Nat) (hz : w.heap.size = g) (cells : Array Value) (hx : a.eval x = .pointer (some ⟨g, 0, none⟩)) (hy : a.eval y = .agg cells) (hi : (Tryz.prog.info? ty).map (·.size) = some cells.size) (hold : old.size = cells.size) (h1 : cells.all (·.oneCell') = true)
    (hS : S (w.alloc (.cells cells t))) (h : S (w.alloc (.cells cells t)) → wpAnyH Tryz.prog md ops Q S fuel (listed.setIfInBounds i true) (a.put o.dst undef) (w.alloc (.cells cells t))) : wpAnyH Tryz.prog md ops Q S (fuel + 1) listed a (w.alloc (.cells old t)) := by
  subst hz
  refine wpAnyH_ready hr (by simp) (AllReadyH.cons ho (fun K hK => ?_) AllReadyH.nil)
  rw [if_pos (wanted_none hg)]
  refine wp_store_row ty x y hop w.heap.size cells hx hy t old (World.alloc_heap_new w _) hi hold h1 ?_
  rw [alloc_setRow]
  exact hK.out _ _ hS h
end

set_option maxRecDepth 100000 in
set_option maxHeartbeats 2000000 in
theorem get_hit (w : World) (p : Nat) (m : Option Nat) (n : Nat) (D : DataW Value) (h : StAt w p m n D) (a : Ad) (ha : a.ok) (x : Ct) (A : Option Addr) (c : Nat) (hk : ¬ x.k = 2) (hhas : Maps.has D a.key = true) (hat : D.atKey a.key (.held (contV zCt none 0)) = .held (contV x A c)) :
    Calls Tryz.prog 19 #[.pointer (some ⟨p, 0, none⟩), a.val] w fun e w' => e = .returned (contV (plainC x) none 0) ∧ Below w.heap.size w w' := by
  obtain ⟨ra, rn, ca, cn⟩ := a
  obtain ⟨W0, hW0⟩ : ∃ W0, W0 = (w.alloc (.cells #[.int .i64 ra, .int .i64 rn, .int .i64 ca, .int .i64 cn] 30)).alloc (.cells (contA zCt none 0) 43) := ⟨_, rfl⟩
  have hbel : Below w.heap.size w W0 := by rw [hW0]; exact ((Below.refl _ w).alloc (Nat.le_refl _) _).alloc (by simp) _
  have hz0 : W0.heap.size = w.heap.size + 2 := by rw [hW0]; simp
  have hk0 : W0.heap[w.heap.size]? = some (.cells #[.int .i64 ra, .int .i64 rn, .int .i64 ca, .int .i64 cn] 30) := by rw [hW0]; exact (heapOld _ _ _ (by simp)).trans (heap_alloc_new _ _)
  have hk1 : W0.heap[w.heap.size + 1]? = some (.cells (contA zCt none 0) 43) := by
    rw [hW0]
    have := heap_alloc_new (w.alloc (.cells #[.int .i64 ra, .int .i64 rn, .int .i64 ca, .int .i64 cn] 30)) (.cells (contA zCt none 0) 43)
    rwa [World.size_alloc] at this
  have hst : StAt W0.drew p m n D := (h.below hbel).below (Below.refl _ _).drew
  have hlw : ∀ wx, Below W0.heap.size W0 wx → (Instr.lookup 60 (.map m) (Ad.val ⟨ra, rn, ca, cn⟩) true).run Tryz.prog wx = .ok (.tuple #[contV x A c, .bool true]) wx := fun wx hx => by
    obtain ⟨v', hl', hv', -⟩ := look_st ((h.below hbel).below hx) _ ha
    rw [hat] at hv'
    obtain rfl : contA x A c = v' := by injection hv' with hv'; injection hv'
    rwa [hhas] at hl'
  have hcw : ∀ wx, Below W0.heap.size W0 wx → wx.cell? ⟨p, 0, none⟩ = some (.map m) := fun wx hx => cell_of_row _ _ 0 _ _ _ ((h.below hbel).below hx).1
  have hc : W0.cell? ⟨p, 0, none⟩ = some (.map m) := cell_of_row _ _ 0 _ _ _ hst.1
  have hpl : p < w.heap.size := (Array.getElem?_eq_some_iff.1 h.1).1
  obtain ⟨W1, hW1⟩ : ∃ W1, W1 = W0.drew.alloc (.cells (contA x A c) 43) := ⟨_, rfl⟩
  have hrg : ∀ wx, Below W0.heap.size W0 wx → wx.rangeAt w.heap.size 0 [.int .i64 ra, .int .i64 rn, .int .i64 ca, .int .i64 cn] := fun wx hx => ad_range ((hx.block _ (by omega)).trans hk0)
  have hs1 : Below W0.heap.size W0 (W0.drew.alloc (.cells (contA zCt none 0) 43)) := (Below.refl _ _).drew.alloc (Nat.le_refl _) _
  have hs2 : Below W0.heap.size W0 (W0.drew.alloc (.cells (contA x A c) 43)) := (Below.refl _ _).drew.alloc (Nat.le_refl _) _
  have hk11 : W1.heap[w.heap.size + 1]? = some (.cells (contA zCt none 0) 43) := by rw [hW1]; exact (heapOld _ _ _ (by show w.heap.size + 1 < W0.heap.size; omega)).trans hk1
  have hk12 : W1.heap[w.heap.size + 2]? = some (.cells (contA x A c) 43) := by
    rw [hW1]; have := heap_alloc_new W0.drew (.cells (contA x A c) 43); rwa [show W0.drew.heap.size = w.heap.size + 2 from hz0] at this
  have hz1 : W1.heap.size = w.heap.size + 3 := by rw [hW1, World.size_alloc]; show W0.heap.size + 1 = _; omega
  have hb1 : Below w.heap.size w W1 := by rw [hW1]; exact (hbel.drew).alloc (by show w.heap.size ≤ W0.heap.size; omega) _
  have hcp := copiedP_c x W1 A c hk
  have hic : (Tryz.prog.info? 43).map (·.size) = some (contA (plainC x) none 0).size := infC
  have hix : (Tryz.prog.info? 43).map (·.size) = some (contA x A c).size := infC
  have hoc := cont_one (plainC x) none 0
  have hox := cont_one x A c
  have hzx : (contA zCt none 0).size = (contA x A c).size := rfl
  have hzy : (contA zCt none 0).size = (contA (plainC x) none 0).size := rfl
  simp only [contV] at hlw
  rw [contV, contV] at hcp
  obtain ⟨CX, hCX⟩ : ∃ C, C = contA x A c := ⟨_, rfl⟩
  obtain ⟨CY, hCY⟩ : ∃ C, C = contA (plainC x) none 0 := ⟨_, rfl⟩
  obtain ⟨b, hb⟩ : ∃ b, b = w.heap.size := ⟨_, rfl⟩
  rw [contV, ← hCY]
  simp only [← hCX] at hlw
  rw [← hCX] at hW1 hk12 hcp hix hox hzx hs2
  rw [← hCY] at hcp hic hoc hzy
  rw [← hb] at hrg hk11 hk12 hz1
  simp only [Ad.val] at hlw ⊢
  have hz00 : W0.drew.heap.size = b + 2 := by rw [hb]; exact hz0
  have HW0 := Lib.hid hW0
  have HW1 := Lib.hid hW1
  have HL := Lib.hid hlw
  have HCP0 := Lib.hid hcw
  have HS1 := Lib.hid hs1
  have HS2 := Lib.hid hs2
  have HRG := Lib.hid hrg
  have HK11 := Lib.hid hk11
  have HK12 := Lib.hid hk12
  have HZ0 := Lib.hid hz00
  have HZ1 := Lib.hid hz1
  have HB1 := Lib.hid hb1
  have HCP := Lib.hid hcp
  have HIC := Lib.hid hic
  have HIX := Lib.hid hix
  have HOC := Lib.hid hoc
  have HOX := Lib.hid hox
  have HZX := Lib.hid hzx
  have HZY := Lib.hid hzy
  have HB := Lib.hid hb
  clear hW0 hW1 hlw hcw hs1 hs2 hrg hk11 hk12 hz00 hz1 hb1 hcp hic hix hoc hox hzx hzy hk0 hk1 hz0 hbel hCX hCY hk hb h ha hat hhas hst hpl
  go_enter Tryz.func19, Tryz.ntmps19
  go_upto_region 1 with (refine wpList_contVar rfl rfl (w.heap.size + 1) (by simp) ?_)
  rw [← HW0.out, ← HB.out]
  go_wp2
  refine wp_region_held_drew (S := fun wx => Below W0.heap.size W0 wx) (by kernel_rfl) (Below.refl _ _).drew (fun hHeld => ?_)
  refine wpAnyH_take (i := 0) (v := (.pointer (some ⟨p, 0, none⟩))) rfl (by kernel_rfl) (by kernel_rfl) (by kernel_rfl) (fun _ _ _ h => h) (Or.inl ⟨by kernel_rfl, fun _ hS => by kernel_rfl⟩) hHeld ?_
  (try simp only [Act.put, List.getElem_toArray, List.getElem_cons_zero, List.setIfInBounds_toArray, List.set_cons_zero, List.set_cons_succ])
  refine wpAnyH_take (i := 1) (v := (.pointer (some ⟨p, 0, none⟩))) rfl (by kernel_rfl) (by kernel_rfl) (by kernel_rfl) (fun _ _ _ h => h) (Or.inl ⟨by kernel_rfl, fun _ hS => by kernel_rfl⟩) hHeld ?_
  (try simp only [Act.put, List.getElem_toArray, List.getElem_cons_succ, List.getElem_cons_zero, List.setIfInBounds_toArray, List.set_cons_zero, List.set_cons_succ])
  refine wpAnyH_take (i := 2) (v := (.pointer (some ⟨p, 0, none⟩))) rfl (by kernel_rfl) (by kernel_rfl) (by kernel_rfl) (fun _ _ _ h => h) (Or.inl ⟨by kernel_rfl, fun _ hS => by kernel_rfl⟩) hHeld ?_
  (try simp only [Act.put, List.getElem_toArray, List.getElem_cons_succ, List.getElem_cons_zero, List.setIfInBounds_toArray, List.set_cons_zero, List.set_cons_succ])
  refine wpAnyH_take (i := 3) (v := (.map m)) rfl (by kernel_rfl) (by kernel_rfl) (by kernel_rfl) (fun _ _ _ h => h) (Or.inl ⟨by kernel_rfl, fun _ hS => ld_mp _ rfl ⟨p, 0, none⟩ rfl _ (HCP0.out _ hS)⟩) hHeld ?_
  (try simp only [Act.put, List.getElem_toArray, List.getElem_cons_succ, List.getElem_cons_zero, List.setIfInBounds_toArray, List.set_cons_zero, List.set_cons_succ])
  refine wpAnyH_take (i := 4) (v := .agg #[.int .i64 ra, .int .i64 rn, .int .i64 ca, .int .i64 cn]) rfl (by kernel_rfl) (by kernel_rfl) (by kernel_rfl) (fun _ _ _ h => h) (yieldsIf_load_mid (by kernel_rfl) 30 _ rfl b 0 rfl [.int .i64 ra, .int .i64 rn, .int .i64 ca, .int .i64 cn] _ (fun _ hS => HRG.out _ hS) undCell rfl infCell) hHeld ?_
  (try simp only [Act.put, List.getElem_toArray, List.getElem_cons_succ, List.getElem_cons_zero, List.setIfInBounds_toArray, List.set_cons_zero, List.set_cons_succ])
  refine wpAnyH_take (i := 5) (v := (.tuple #[.agg CX, .bool true])) rfl (by kernel_rfl) (by kernel_rfl) (by kernel_rfl) (fun _ _ _ h => h) (Or.inl ⟨by kernel_rfl, fun _ hS => lk_run (mv := .map m) (kv := .agg #[.int .i64 ra, .int .i64 rn, .int .i64 ca, .int .i64 cn]) _ _ rfl rfl rfl (HL.out _ hS)⟩) hHeld ?_
  (try simp only [Act.put, List.getElem_toArray, List.getElem_cons_succ, List.getElem_cons_zero, List.setIfInBounds_toArray, List.set_cons_zero, List.set_cons_succ])
  refine wpAnyH_take (i := 6) (v := (.tuple #[.agg CX, .bool true])) rfl (by kernel_rfl) (by kernel_rfl) (by kernel_rfl) (fun _ _ _ h => h) (Or.inl ⟨by kernel_rfl, fun _ hS => by kernel_rfl⟩) hHeld ?_
  (try simp only [Act.put, List.getElem_toArray, List.getElem_cons_succ, List.getElem_cons_zero, List.setIfInBounds_toArray, List.set_cons_zero, List.set_cons_succ])
  refine wpAnyH_take (i := 7) (v := (.agg CX)) rfl (by kernel_rfl) (by kernel_rfl) (by kernel_rfl) (fun _ _ _ h => h) (Or.inl ⟨by kernel_rfl, fun _ hS => by kernel_rfl⟩) hHeld ?_
  (try simp only [Act.put, List.getElem_toArray, List.getElem_cons_succ, List.getElem_cons_zero, List.setIfInBounds_toArray, List.set_cons_zero, List.set_cons_succ])
  refine wpAnyH_take (i := 8) (v := (.bool true)) rfl (by kernel_rfl) (by kernel_rfl) (by kernel_rfl) (fun _ _ _ h => h) (Or.inl ⟨by kernel_rfl, fun _ hS => by kernel_rfl⟩) hHeld ?_
  (try simp only [Act.put, List.getElem_toArray, List.getElem_cons_succ, List.getElem_cons_zero, List.setIfInBounds_toArray, List.set_cons_zero, List.set_cons_succ])
  refine wpAnyH_contVar (i := 9) (by kernel_rfl) rfl rfl rfl (b + 2) HZ0.out (HS1.out) (fun hHeld => ?_)
  (try simp only [Act.put, List.getElem_toArray, List.getElem_cons_succ, List.getElem_cons_zero, List.setIfInBounds_toArray, List.set_cons_zero, List.set_cons_succ])
  refine wpAnyH_storeFresh (i := 10) (by kernel_rfl) rfl rfl 43 _ _ rfl (b + 2) HZ0.out CX rfl rfl HIX.out HZX.out HOX.out HS2.out (fun hHeld => ?_)
  (try simp only [Act.put, List.getElem_toArray, List.getElem_cons_succ, List.getElem_cons_zero])
  refine wpAnyH_take (i := 11) (v := (.bool true)) rfl (by kernel_rfl) (by kernel_rfl) (by kernel_rfl) (fun _ _ _ h => h) (Or.inl ⟨by kernel_rfl, fun _ hS => by kernel_rfl⟩) hHeld ?_
  (try simp only [Act.put, List.getElem_toArray, List.getElem_cons_succ, List.getElem_cons_zero, List.setIfInBounds_toArray, List.set_cons_zero, List.set_cons_succ])
  refine wpAnyH_done (by kernel_rfl) ?_ _
  rw [← HW1.out]
  go_wp2_with (first | (refine wpList_row rfl 43 _ rfl (b + 2) rfl 43 CX (0, 0) _ HK12.out undC rfl HIX.out ?_) | (go_at_call 33; refine HCP.out.mono ?_; rintro e w2 ⟨rfl, hbe⟩; have hk21 := Lib.hid ((hbe.block (b + 1) (by have := HZ1.out; omega)).trans HK11.out)) | (refine wpList_store_row rfl 43 _ _ rfl (b + 1) CY rfl rfl 43 (contA zCt none 0) hk21.out HIC.out HZY.out HOC.out ?_))
  refine bodyPost_ret (v := .agg CY) (results_cell_row rfl _ _ (b + 1) 43 CY (0, 0) _ rfl (setRow_heap _ _ _ _ _ _ hk21.out) undC rfl HIC.out) rfl ?_
  exact ⟨rfl, below_row (HB1.out.trans (hbe.mono HB1.out.size)) (by rw [HB.out]; omega) _⟩
end Go.Proofs.YtelombedjkbckaaGreatDoor
namespace Go.Proofs.YtelombedjkbckaaGreatDoor
open Go Go.RowKit Go.Shelf Go.Maps

theorem KeepP.refl (p : Nat) (m : Option Nat) (w : World) : KeepP p m w w := ⟨rfl, rfl, rfl, Nat.le_refl _, fun _ _ _ _ => rfl⟩
theorem KeepP.then_below {p : Nat} {m : Option Nat} {w w' w'' : World} (h : KeepP p m w w') (hb : Below w'.heap.size w' w'') : KeepP p m w w'' :=
  ⟨hb.os.trans h.os, hb.tape.trans h.tape, hb.output.trans h.output, Nat.le_trans h.size hb.size, fun k hk h1 h2 => (hb.block k (Nat.lt_of_lt_of_le hk h.size)).trans (h.block k hk h1 h2)⟩
theorem KeepP.then_cell {p : Nat} {m : Option Nat} {w w' : World} (h : KeepP p m w w') (v : Value) : KeepP p m w (w'.setCell ⟨p, 0, none⟩ v) := by
  have hb := (Below.refl 0 w').setCell (p := ⟨p, 0, none⟩) (Nat.zero_le _) v
  exact ⟨hb.os.trans h.os, hb.tape.trans h.tape, hb.output.trans h.output, Nat.le_trans h.size hb.size, fun k hk h1 h2 => (Below.heap_setCell w' _ v k (fun e => h1 e)).trans (h.block k hk h1 h2)⟩
theorem KeepP.then_map {p : Nat} {m : Option Nat} {w w' w'' : World} (h : KeepP p m w w') {g : Nat} (hg : w'.grownBy w'' (some g)) (hm : m = some g ∨ w.heap.size ≤ g) : KeepP p m w w'' :=
  ⟨hg.os.trans h.os, hg.tape.trans h.tape, hg.output.trans h.output, Nat.le_trans h.size hg.size, fun k hk h1 h2 => (hg.block k (Nat.lt_of_lt_of_le hk h.size) (fun e => by
    have e := Option.some.inj e
    subst e
    rcases hm with hm | hm
    · exact h2 hm
    · omega)).trans (h.block k hk h1 h2)⟩
theorem KeepP.from_below {p : Nat} {m : Option Nat} {w w' w'' : World} (hb : Below w.heap.size w w') (h : KeepP p m w' w'') : KeepP p m w w'' :=
  ⟨h.os.trans hb.os, h.tape.trans hb.tape, h.output.trans hb.output, Nat.le_trans hb.size h.size, fun k hk h1 h2 => (h.block k (Nat.lt_of_lt_of_le hk hb.size) h1 h2).trans (hb.block k hk)⟩
theorem own_map_below {w w' : World} {g n : Nat} {D : DataW Value} (h : w.ownsMap Tryz.prog 30 heldR g n D) (hb : Below w.heap.size w w') : w'.ownsMap Tryz.prog 30 heldR g n D := by
  obtain ⟨es, clock, e1, e2⟩ := h
  exact ⟨es, clock, (hb.block g (Array.getElem?_eq_some_iff.1 e1).1).trans e1, e2⟩
theorem eqMapNN (w : World) : (binOp .eql 60 (.map none) (.map none)).run Tryz.prog w = .ok (.bool true) w := by kernel_rfl
section
variable {md : Region.Mode} {ops : Array Oper} {Q : Exit → Act → World → Prop} {S : World → Prop}
/-- 'm[k] = v', where nothing else may come up. -/
theorem wpAnyH_put {i : Nat} {o : Oper} {fuel : Nat} {listed : Array Bool} {a : Act} {w : World} (hr : Region.ready md ops listed = [i]) (ho : ops[i]? = some o) (hg : o.guard = none) (x y z : Operand) (hop : o.op = .mapUpdate 60 x y z)
    (g n : Nat) (D : DataW Value) (hx : a.eval x = .map (some g)) (ad : Ad) (had : ad.ok) (hy : a.eval y = ad.val) (c : Ct) (A : Option Addr) (cc : Nat) (hz : a.eval z = contV c A cc) (hn : n < maxLen) (hown : w.ownsMap Tryz.prog 30 heldR g n D)
    (hS : ∀ w', w.grownBy w' (some g) → S w') (h : ∀ w', w'.ownsMap Tryz.prog 30 heldR g (n + 1) (D.put ad.key (.held (contV c A cc))) → w.grownBy w' (some g) → S w' → wpAnyH Tryz.prog md ops Q S fuel (listed.setIfInBounds i true) (a.put o.dst undef) w') : wpAnyH Tryz.prog md ops Q S (fuel + 1) listed a w := by
  refine wpAnyH_ready hr (by simp) (AllReadyH.cons ho (fun K hK => ?_) AllReadyH.nil)
  rw [if_pos (wanted_none hg)]
  obtain ⟨w', hrun, h1, h2⟩ := hown.update cell_law undMp hn (key_eq ad had) (heldR_cont c A cc)
  have hf := hK.out _ _ (hS w' h2) (h w' h1 h2)
  unfold Oper.wp
  simp [execOp, hop, hx, hy, hz, hrun, Result.andThen]
  exact hf
end

end Go.Proofs.YtelombedjkbckaaGreatDoor
namespace Go.Proofs.YtelombedjkbckaaGreatDoor
open Go Go.RowKit Go.Shelf Go.Maps

theorem KeepP.from_none {p q : Nat} {w w' w'' : World} (h : KeepP p none w w') (h' : KeepP p (some q) w' w'') (hq : w.heap.size ≤ q) : KeepP p none w w'' :=
  ⟨h'.os.trans h.os, h'.tape.trans h.tape, h'.output.trans h.output, Nat.le_trans h.size h'.size, fun k hk h1 _ => (h'.block k (Nat.lt_of_lt_of_le hk h.size) h1 (fun e => by have := Option.some.inj e; omega)).trans (h.block k hk h1 (by simp))⟩
theorem mk_map3 (w : World) : (Instr.makeMap 60 none).run Tryz.prog w = .ok (.map (some w.heap.size)) (w.alloc (.map #[] 0)) := by kernel_rfl

set_option maxRecDepth 100000 in
set_option maxHeartbeats 4000000 in
theorem put_none (w : World) (p : Nat) (n : Nat) (D : DataW Value) (h : StAt w p none n D) (a : Ad) (ha : a.ok) (his : a.is = true) (x : Ct) (A : Option Addr) (c : Nat) (hx1 : x.k = 1) (hr : rightC x = true) (hv : x.v.ok) (hd : x.t.d.ok) (B : Nat) (hs : SlAt w B A c x.t.l) (hB : B ≤ w.heap.size) (hsz : x.t.size ≤ 1099511627776) :
    Calls Tryz.prog 13 #[.pointer (some ⟨p, 0, none⟩), a.val, contV x A c] w fun e w' => e = .returned (.int .i64 0) ∧ ∃ g, w.heap.size ≤ g ∧ StAt w' p (some g) 1 (D.put a.key (.held (contV (plainC x) none 0))) ∧ KeepP p none w w' := by
  obtain ⟨ra, rn, ca, cn⟩ := a
  obtain ⟨W0, hW0⟩ : ∃ W0, W0 = (w.alloc (.cells #[.int .i64 ra, .int .i64 rn, .int .i64 ca, .int .i64 cn] 30)).alloc (.cells (contA x A c) 43) := ⟨_, rfl⟩
  have hbel : Below w.heap.size w W0 := by rw [hW0]; exact ((Below.refl _ w).alloc (Nat.le_refl _) _).alloc (by simp) _
  have hz0 : W0.heap.size = w.heap.size + 2 := by rw [hW0]; simp
  have hk0 : W0.heap[w.heap.size]? = some (.cells #[.int .i64 ra, .int .i64 rn, .int .i64 ca, .int .i64 cn] 30) := by rw [hW0]; exact (heapOld _ _ _ (by simp)).trans (heap_alloc_new _ _)
  have hk1 : W0.heap[w.heap.size + 1]? = some (.cells (contA x A c) 43) := by
    rw [hW0]
    have := heap_alloc_new (w.alloc (.cells #[.int .i64 ra, .int .i64 rn, .int .i64 ca, .int .i64 cn] 30)) (.cells (contA x A c) 43)
    rwa [World.size_alloc] at this
  have hpl : p < w.heap.size := (Array.getElem?_eq_some_iff.1 h.1).1
  have hD : D = .map [] := h.2
  have hst : ∀ wx, Below W0.heap.size W0 wx → StAt wx p none n D := fun wx hx => (h.below hbel).below hx
  have hI : ∀ wx, Calls Tryz.prog 32 #[.agg #[.int .i64 ra, .int .i64 rn, .int .i64 ca, .int .i64 cn]] wx fun e w' => e = .returned (.bool true) ∧ Below wx.heap.size wx w' := fun wx => by have := isCell_c ra rn ca cn wx; rw [show isCellB ra rn ca cn = true from his] at this; exact this
  have hR : ∀ wx, Below W0.heap.size W0 wx → Calls Tryz.prog 24 #[contV x A c] wx fun e w' => e = .returned (.bool true) ∧ Below wx.heap.size wx w' := fun wx hx => by
    have := cright_c x wx B A c hv hd ((hs.below (hbel.mono hB)).below (hx.mono (by omega))) (by have := hx.size; omega) hsz
    rwa [hr] at this
  have hcp := fun wx => copiedP_c x wx A c (by omega)
  have hkk : ∀ wx, Below W0.heap.size W0 wx → wx.cell? ⟨w.heap.size + 1, 0, none⟩ = some (.int .i64 1) := fun wx hx => by rw [← hx1]; exact (cont_row ((hx.block (w.heap.size + 1) (by omega)).trans hk1)).1
  have hka : ∀ wx, Below W0.heap.size W0 wx → wx.heap[w.heap.size + 1]? = some (.cells (contA x A c) 43) := fun wx hx => (hx.block (w.heap.size + 1) (by omega)).trans hk1
  have hkb : ∀ wx, Below W0.heap.size W0 wx → wx.heap[w.heap.size]? = some (.cells #[.int .i64 ra, .int .i64 rn, .int .i64 ca, .int .i64 cn] 30) := fun wx hx => (hx.block w.heap.size (by omega)).trans hk0
  have hix : (Tryz.prog.info? 43).map (·.size) = some (contA x A c).size := infC
  obtain ⟨y, hy⟩ : ∃ y, y = plainC x := ⟨_, rfl⟩
  rw [contV] at hR
  simp only [contV] at hcp
  rw [← hy] at hcp ⊢
  obtain ⟨CA, hCA⟩ : ∃ C, C = contA x A c := ⟨_, rfl⟩
  obtain ⟨b, hb⟩ : ∃ b, b = w.heap.size := ⟨_, rfl⟩
  rw [show contV x A c = .agg CA by rw [hCA]]
  simp only [← hCA] at hka hR hcp hix hW0
  have hil : (Tryz.prog.info? 43).map (·.size) = some CA.toList.length := by rw [Array.length_toList]; exact hix
  rw [← hb] at hka hkb hkk hpl hz0
  simp only [Ad.val]
  have HW0 := Lib.hid hW0
  have HST := Lib.hid hst
  have HI := Lib.hid hI
  have HR := Lib.hid hR
  have HCP := Lib.hid hcp
  have HKK := Lib.hid hkk
  have HKA := Lib.hid hka
  have HKB := Lib.hid hkb
  have HIX := Lib.hid hix
  have HIL := Lib.hid hil
  have HA := Lib.hid ha
  have HB := Lib.hid hb
  have HBEL := Lib.hid hbel
  have HDD := Lib.hid hD
  have HPL := Lib.hid hpl
  have HZ := Lib.hid hz0
  clear hW0 hst hI hR hcp hkk hka hkb hix hil ha hb hbel hk0 hk1 hCA hs hd hv hr hx1 h his hsz hD hy hpl hz0 hB
  have hb00 : Below W0.heap.size W0 W0 := Below.refl _ _
  have hrgb : ∀ wx, Below W0.heap.size W0 wx → wx.rangeAt b 0 [.int .i64 ra, .int .i64 rn, .int .i64 ca, .int .i64 cn] := fun wx hx => ad_range (HKB.out wx hx)
  have HRGB := Lib.hid hrgb
  clear hrgb
  go_enter Tryz.func13, Tryz.ntmps13
  go_upto_region 1 with (fail)
  rw [← HW0.out, ← HB.out]
  go_wp2_with (first | (refine wpList_mid rfl 30 _ rfl b 0 rfl _ _ (HRGB.out _ hb00) undCell rfl infCell ?_) | (go_at_call 32; refine (HI.out W0).mono ?_; rintro e w1 ⟨rfl, hb1⟩) | (refine wpList_row rfl 43 _ rfl (b + 1) rfl 43 CA (0, 0) _ (HKA.out _ hb1) undC rfl HIX.out ?_) | (go_at_call 24; refine (HR.out _ hb1).mono ?_; rintro e w2 ⟨rfl, hbr⟩; have hb2 := hb1.trans (hbr.mono hb1.size); have hkc := HKK.out _ hb2))
  clear hb1 hbr hb00 hkc
  -- v, ok := s.m[at]
  obtain ⟨cs, hl0, hcs, hcz, hco⟩ := look_st (HST.out w2 hb2) ⟨ra, rn, ca, cn⟩ HA.out
  have hl : ∀ wx, Below w2.heap.size w2 wx → (Instr.lookup 60 (.map none) (.agg #[.int .i64 ra, .int .i64 rn, .int .i64 ca, .int .i64 cn]) true).run Tryz.prog wx = .ok (.tuple #[.agg cs, .bool false]) wx := fun wx hx => by
    obtain ⟨cs', hl', hv', -⟩ := look_st (HST.out wx (hb2.trans (hx.mono hb2.size))) ⟨ra, rn, ca, cn⟩ HA.out
    rw [hcs] at hv'
    obtain rfl : cs = cs' := by injection hv' with hv'; injection hv'
    rw [HDD.out] at hl'
    exact hl'
  have hcw : ∀ wx, Below w2.heap.size w2 wx → wx.cell? ⟨p, 0, none⟩ = some (.map none) := fun wx hx => cell_of_row _ _ 0 _ _ _ (HST.out wx (hb2.trans (hx.mono hb2.size))).1
  have hrg : ∀ wx, Below w2.heap.size w2 wx → wx.rangeAt b 0 [.int .i64 ra, .int .i64 rn, .int .i64 ca, .int .i64 cn] := fun wx hx => HRGB.out wx (hb2.trans (hx.mono hb2.size))
  have hs1 : Below w2.heap.size w2 (w2.drew.alloc (.cells (contA zCt none 0) 43)) := (Below.refl _ _).drew.alloc (Nat.le_refl _) _
  have hs2 : Below w2.heap.size w2 (w2.drew.alloc (.cells cs 43)) := (Below.refl _ _).drew.alloc (Nat.le_refl _) _
  have hixc : (Tryz.prog.info? 43).map (·.size) = some cs.size := by rw [hcz]; exact infC
  have hzc : (contA zCt none 0).size = cs.size := by rw [hcz]; rfl
  obtain ⟨q, hq⟩ : ∃ q, w2.drew.heap.size = q := ⟨_, rfl⟩
  obtain ⟨W3, hW3⟩ : ∃ W3, W3 = w2.drew.alloc (.cells cs 43) := ⟨_, rfl⟩
  have hb3 : Below W0.heap.size W0 W3 := by rw [hW3]; exact hb2.trans (hs2.mono hb2.size)
  have HL := Lib.hid hl
  have HCP0 := Lib.hid hcw
  have HRG := Lib.hid hrg
  have HS1 := Lib.hid hs1
  have HS2 := Lib.hid hs2
  have HIXC := Lib.hid hixc
  have HZX := Lib.hid hzc
  have HOX := Lib.hid hco
  have HZ0 := Lib.hid hq
  have HW3 := Lib.hid hW3
  have HB3 := Lib.hid hb3
  clear hl hcw hrg hs1 hs2 hixc hzc hco hq hW3 hb3 hl0 hcs hcz
  refine wp_region_held_drew (S := fun wx => Below w2.heap.size w2 wx) (by kernel_rfl) (Below.refl _ _).drew (fun hHeld => ?_)
  refine wpAnyH_take (i := 0) (v := (.pointer (some ⟨p, 0, none⟩))) rfl (by kernel_rfl) (by kernel_rfl) (by kernel_rfl) (fun _ _ _ h => h) (Or.inl ⟨by kernel_rfl, fun _ hS => by kernel_rfl⟩) hHeld ?_
  (try simp only [Act.put, List.getElem_toArray, List.getElem_cons_zero, List.setIfInBounds_toArray, List.set_cons_zero, List.set_cons_succ])
  refine wpAnyH_take (i := 1) (v := (.pointer (some ⟨p, 0, none⟩))) rfl (by kernel_rfl) (by kernel_rfl) (by kernel_rfl) (fun _ _ _ h => h) (Or.inl ⟨by kernel_rfl, fun _ hS => by kernel_rfl⟩) hHeld ?_
  (try simp only [Act.put, List.getElem_toArray, List.getElem_cons_succ, List.getElem_cons_zero, List.setIfInBounds_toArray, List.set_cons_zero, List.set_cons_succ])
  refine wpAnyH_take (i := 2) (v := (.pointer (some ⟨p, 0, none⟩))) rfl (by kernel_rfl) (by kernel_rfl) (by kernel_rfl) (fun _ _ _ h => h) (Or.inl ⟨by kernel_rfl, fun _ hS => by kernel_rfl⟩) hHeld ?_
  (try simp only [Act.put, List.getElem_toArray, List.getElem_cons_succ, List.getElem_cons_zero, List.setIfInBounds_toArray, List.set_cons_zero, List.set_cons_succ])
  refine wpAnyH_take (i := 3) (v := (.map none)) rfl (by kernel_rfl) (by kernel_rfl) (by kernel_rfl) (fun _ _ _ h => h) (Or.inl ⟨by kernel_rfl, fun _ hS => ld_mp _ rfl ⟨p, 0, none⟩ rfl _ (HCP0.out _ hS)⟩) hHeld ?_
  (try simp only [Act.put, List.getElem_toArray, List.getElem_cons_succ, List.getElem_cons_zero, List.setIfInBounds_toArray, List.set_cons_zero, List.set_cons_succ])
  refine wpAnyH_take (i := 4) (v := .agg #[.int .i64 ra, .int .i64 rn, .int .i64 ca, .int .i64 cn]) rfl (by kernel_rfl) (by kernel_rfl) (by kernel_rfl) (fun _ _ _ h => h) (yieldsIf_load_mid (by kernel_rfl) 30 _ rfl b 0 rfl [.int .i64 ra, .int .i64 rn, .int .i64 ca, .int .i64 cn] _ (fun _ hS => HRG.out _ hS) undCell rfl infCell) hHeld ?_
  (try simp only [Act.put, List.getElem_toArray, List.getElem_cons_succ, List.getElem_cons_zero, List.setIfInBounds_toArray, List.set_cons_zero, List.set_cons_succ])
  refine wpAnyH_take (i := 5) (v := (.tuple #[.agg cs, .bool false])) rfl (by kernel_rfl) (by kernel_rfl) (by kernel_rfl) (fun _ _ _ h => h) (Or.inl ⟨by kernel_rfl, fun _ hS => lk_run (mv := .map none) (kv := .agg #[.int .i64 ra, .int .i64 rn, .int .i64 ca, .int .i64 cn]) _ _ rfl rfl rfl (HL.out _ hS)⟩) hHeld ?_
  (try simp only [Act.put, List.getElem_toArray, List.getElem_cons_succ, List.getElem_cons_zero, List.setIfInBounds_toArray, List.set_cons_zero, List.set_cons_succ])
  refine wpAnyH_take (i := 6) (v := (.tuple #[.agg cs, .bool false])) rfl (by kernel_rfl) (by kernel_rfl) (by kernel_rfl) (fun _ _ _ h => h) (Or.inl ⟨by kernel_rfl, fun _ hS => by kernel_rfl⟩) hHeld ?_
  (try simp only [Act.put, List.getElem_toArray, List.getElem_cons_succ, List.getElem_cons_zero, List.setIfInBounds_toArray, List.set_cons_zero, List.set_cons_succ])
  refine wpAnyH_take (i := 7) (v := (.agg cs)) rfl (by kernel_rfl) (by kernel_rfl) (by kernel_rfl) (fun _ _ _ h => h) (Or.inl ⟨by kernel_rfl, fun _ hS => by kernel_rfl⟩) hHeld ?_
  (try simp only [Act.put, List.getElem_toArray, List.getElem_cons_succ, List.getElem_cons_zero, List.setIfInBounds_toArray, List.set_cons_zero, List.set_cons_succ])
  refine wpAnyH_take (i := 8) (v := (.bool false)) rfl (by kernel_rfl) (by kernel_rfl) (by kernel_rfl) (fun _ _ _ h => h) (Or.inl ⟨by kernel_rfl, fun _ hS => by kernel_rfl⟩) hHeld ?_
  (try simp only [Act.put, List.getElem_toArray, List.getElem_cons_succ, List.getElem_cons_zero, List.setIfInBounds_toArray, List.set_cons_zero, List.set_cons_succ])
  refine wpAnyH_contVar (i := 9) (by kernel_rfl) rfl rfl rfl q HZ0.out (HS1.out) (fun hHeld => ?_)
  (try simp only [Act.put, List.getElem_toArray, List.getElem_cons_succ, List.getElem_cons_zero, List.setIfInBounds_toArray, List.set_cons_zero, List.set_cons_succ])
  refine wpAnyH_storeFresh (i := 10) (by kernel_rfl) rfl rfl 43 _ _ rfl q HZ0.out cs rfl rfl HIXC.out HZX.out HOX.out HS2.out (fun hHeld => ?_)
  (try simp only [Act.put, List.getElem_toArray, List.getElem_cons_succ, List.getElem_cons_zero])
  refine wpAnyH_take (i := 11) (v := (.bool false)) rfl (by kernel_rfl) (by kernel_rfl) (by kernel_rfl) (fun _ _ _ h => h) (Or.inl ⟨by kernel_rfl, fun _ hS => by kernel_rfl⟩) hHeld ?_
  (try simp only [Act.put, List.getElem_toArray, List.getElem_cons_succ, List.getElem_cons_zero, List.setIfInBounds_toArray, List.set_cons_zero, List.set_cons_succ])
  refine wpAnyH_done (by kernel_rfl) ?_ _
  rw [← HW3.out]
  have hst3 := HST.out W3 HB3.out
  have hc3 : W3.cell? ⟨p, 0, none⟩ = some (.map none) := cell_of_row _ _ 0 _ _ _ hst3.1
  have hlen := fun wx : World => Maps.len_nil (w := wx) undMp 3
  have heq := eqMapNN
  have hmk := mk_map3
  have hp3 := hst3.1
  obtain ⟨g, hg⟩ : ∃ g, g = W3.heap.size := ⟨_, rfl⟩
  obtain ⟨W4, hW4⟩ : ∃ W4, W4 = (W3.alloc (.map #[] 0)).setCell ⟨p, 0, none⟩ (.map (some g)) := ⟨_, rfl⟩
  have hpw : p < W3.heap.size := (Array.getElem?_eq_some_iff.1 hp3).1
  have hpa : (W3.alloc (.map #[] 0)).heap[p]? = some (.cells #[.map none] 62) := (heapOld _ _ _ hpw).trans hp3
  have hfz : (W3.alloc (.map #[] 0)).frozen? ⟨p, 0, none⟩ = false := by simp only [World.frozen?, hpa]; simp
  have hca : (W3.alloc (.map #[] 0)).cell? ⟨p, 0, none⟩ = some (.map none) := cell_of_row _ _ 0 _ _ _ hpa
  have hp4 : W4.heap[p]? = some (.cells #[.map (some g)] 62) := by
    rw [hW4]
    exact Boxed.set _ (show Boxed (W3.alloc (.map #[] 0)) p 62 (.map none) from hpa)
  have ho4 : W4.ownsMap Tryz.prog 30 heldR g 0 (.map []) := by
    have := (World.ownsMap_made W3 Tryz.prog 30 heldR).setCell (a := ⟨p, 0, none⟩) (by show W3.heap.size ≠ p; omega) (.map (some g))
    rw [hW4, hg]; rw [hg] at this; exact this
  have hk34 : KeepP p none W3 W4 := by rw [hW4]; exact (KeepP.of_below ((Below.refl _ _).alloc (Nat.le_refl _) _)).then_cell _
  have hs34 := hk34.size
  have HO3 := Lib.hid ho4
  have HP3 := Lib.hid hp4
  have HW4 := Lib.hid hW4
  have HG := Lib.hid hg
  have HPW := Lib.hid hpw
  have HK34 := Lib.hid hk34
  have hpg : p ≠ g := by omega
  have HPG := Lib.hid hpg
  have hrg3 : ∀ wx, KeepP p (some g) W4 wx → wx.rangeAt b 0 [.int .i64 ra, .int .i64 rn, .int .i64 ca, .int .i64 cn] := fun wx hx => ad_range ((hx.block b (by have := HB3.out.size; have := HZ.out; omega) (by have := HPL.out; omega) (fun e => by have := Option.some.inj e; have := HB3.out.size; have := HZ.out; omega)).trans ((hk34.block b (by have := HB3.out.size; have := HZ.out; omega) (by have := HPL.out; omega) (by simp)).trans (HKB.out W3 HB3.out)))
  have hka3 : ∀ wx, KeepP p (some g) W4 wx → wx.rangeAt (b + 1) 0 CA.toList := fun wx hx => row_range_ ((hx.block (b + 1) (by have := HB3.out.size; have := HZ.out; omega) (by have := HPL.out; omega) (fun e => by have := Option.some.inj e; have := HB3.out.size; have := HZ.out; omega)).trans ((hk34.block (b + 1) (by have := HB3.out.size; have := HZ.out; omega) (by have := HPL.out; omega) (by simp)).trans (HKA.out W3 HB3.out))) _ _ (fun j v hv => by rw [Nat.zero_add]; simpa using hv)
  have HRG3 := Lib.hid hrg3
  have HKA3 := Lib.hid hka3
  clear hrg3 hka3 hst3 hp3 hg hW4 hpw hpa hp4 ho4 hk34 hs34 hpg
  go_wp2
  rw [← HG.out, ← HW4.out]
  refine wp_region_held_drew (S := fun wx => KeepP p (some g) W4 wx ∧ wx.heap[p]? = some (.cells #[.map (some g)] 62)) (by kernel_rfl) ⟨KeepP.of_below (Below.refl _ _).drew, HP3.out⟩ (fun hHeld => ?_)
  refine wpAnyH_take (i := 0) (v := (.pointer (some ⟨p, 0, none⟩))) rfl (by kernel_rfl) (by kernel_rfl) (by kernel_rfl) (fun _ _ _ h => h) (Or.inl ⟨by kernel_rfl, fun _ hS => by kernel_rfl⟩) hHeld ?_
  (try simp only [Act.put, List.getElem_toArray, List.getElem_cons_zero, List.setIfInBounds_toArray, List.set_cons_zero, List.set_cons_succ])
  refine wpAnyH_take (i := 1) (v := (.pointer (some ⟨p, 0, none⟩))) rfl (by kernel_rfl) (by kernel_rfl) (by kernel_rfl) (fun _ _ _ h => h) (Or.inl ⟨by kernel_rfl, fun _ hS => by kernel_rfl⟩) hHeld ?_
  (try simp only [Act.put, List.getElem_toArray, List.getElem_cons_succ, List.getElem_cons_zero, List.setIfInBounds_toArray, List.set_cons_zero, List.set_cons_succ])
  refine wpAnyH_take (i := 2) (v := (.pointer (some ⟨p, 0, none⟩))) rfl (by kernel_rfl) (by kernel_rfl) (by kernel_rfl) (fun _ _ _ h => h) (Or.inl ⟨by kernel_rfl, fun _ hS => by kernel_rfl⟩) hHeld ?_
  (try simp only [Act.put, List.getElem_toArray, List.getElem_cons_succ, List.getElem_cons_zero, List.setIfInBounds_toArray, List.set_cons_zero, List.set_cons_succ])
  refine wpAnyH_take (i := 3) (v := (.map (some g))) rfl (by kernel_rfl) (by kernel_rfl) (by kernel_rfl) (fun _ _ _ h => h) (Or.inl ⟨by kernel_rfl, fun _ hS => ld_mp _ rfl ⟨p, 0, none⟩ rfl _ (cell_of_row _ _ 0 _ _ _ hS.2)⟩) hHeld ?_
  (try simp only [Act.put, List.getElem_toArray, List.getElem_cons_succ, List.getElem_cons_zero, List.setIfInBounds_toArray, List.set_cons_zero, List.set_cons_succ])
  refine wpAnyH_take (i := 4) (v := .agg #[.int .i64 ra, .int .i64 rn, .int .i64 ca, .int .i64 cn]) rfl (by kernel_rfl) (by kernel_rfl) (by kernel_rfl) (fun _ _ _ h => h) (yieldsIf_load_mid (by kernel_rfl) 30 _ rfl b 0 rfl [.int .i64 ra, .int .i64 rn, .int .i64 ca, .int .i64 cn] _ (fun _ hS => HRG3.out _ hS.1) undCell rfl infCell) hHeld ?_
  (try simp only [Act.put, List.getElem_toArray, List.getElem_cons_succ, List.getElem_cons_zero, List.setIfInBounds_toArray, List.set_cons_zero, List.set_cons_succ])
  refine wpAnyH_take (i := 5) (v := .agg CA.toList.toArray) rfl (by kernel_rfl) (by kernel_rfl) (by kernel_rfl) (fun _ _ _ h => h) (yieldsIf_load_mid (by kernel_rfl) 43 _ rfl (b + 1) 0 rfl CA.toList _ (fun _ hS => HKA3.out _ hS.1) undC rfl HIL.out) hHeld ?_
  (try simp only [Act.put, List.getElem_toArray, List.getElem_cons_succ, List.getElem_cons_zero, List.setIfInBounds_toArray, List.set_cons_zero, List.set_cons_succ])
  simp only [Array.toArray_toList]
  refine wpAnyH_ready (rs := [6]) (by kernel_rfl) (by simp) ?_
  refine AllReadyH.cons rfl (fun K hK => ?_) AllReadyH.nil
  go_simp
  refine (HCP.out _).mono ?_
  rintro e w4 ⟨rfl, hb4⟩
  try go_simp
  have hH4 : KeepP p (some g) W4 w4 ∧ w4.heap[p]? = some (.cells #[.map (some g)] 62) := ⟨hHeld.1.then_below hb4, (hb4.block p (Array.getElem?_eq_some_iff.1 hHeld.2).1).trans hHeld.2⟩
  have HO4 := Lib.hid (own_map_below HO3.out.drew hb4)
  have HP4 := Lib.hid hb4.size
  refine hK.out _ _ hH4 (fun hHeld4 => ?_)
  clear hK K hHeld hH4
  (try simp only [Act.put, List.getElem_toArray, List.getElem_cons_succ, List.getElem_cons_zero, List.setIfInBounds_toArray, List.set_cons_zero, List.set_cons_succ])
  refine wpAnyH_put (i := 7) (by kernel_rfl) rfl rfl _ _ _ rfl g 0 (.map []) rfl ⟨ra, rn, ca, cn⟩ HA.out rfl y none 0 rfl (by unfold maxLen; omega) HO4.out (fun w' hg => ⟨hHeld4.1.then_map hg (.inl rfl), (hg.block p (Array.getElem?_eq_some_iff.1 hHeld4.2).1 (fun e => HPG.out (Option.some.inj e))).trans hHeld4.2⟩) (fun w5 ho5 hg5 hHeld5 => ?_)
  (try simp only [Act.put, List.getElem_toArray, List.getElem_cons_succ, List.getElem_cons_zero])
  refine wpAnyH_done (by kernel_rfl) ?_ _
  go_wp2
  go_ret
  exact ⟨rfl, g, by have := HG.out; have := (HBEL.out.trans (HB3.out.mono HBEL.out.size)).size; omega, ⟨hHeld5.2, by rw [HDD.out]; exact ho5⟩, KeepP.from_none (KeepP.from_below (HBEL.out.trans (HB3.out.mono HBEL.out.size)) HK34.out) hHeld5.1 (by have := HG.out; have := (HBEL.out.trans (HB3.out.mono HBEL.out.size)).size; omega)⟩

end Go.Proofs.YtelombedjkbckaaGreatDoor
