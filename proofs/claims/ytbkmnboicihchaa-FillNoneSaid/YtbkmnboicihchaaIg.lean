/- Axis.Place, where all is ready. -/
import Derived.Test.YtbkmnboicihchaaIe
namespace Go.Proofs.Ytbkmnboicihchaa
set_option linter.unusedSimpArgs false
set_option linter.unusedVariables false
open Go Go.RowKit Go.Shelf Go.Maps

theorem own1_at {W : World} {base : Nat} {e : TypeId} {A : Option Addr} {n c : Nat} {xs : List Value} (h : W.ownsRow base e 1 (.slice A n c) n xs) {k : Nat} (hk : k < n) {v : Value} (hv : xs[k]? = some v) :
    ∃ g, A = some ⟨g, 0, none⟩ ∧ W.cell? ⟨g, k, none⟩ = some v := by
  rcases h.2 with ⟨e, hn⟩ | ⟨g, cap, cur, e, -, hg, -⟩
  · omega
  · simp only [Value.slice.injEq, true_and] at e
    obtain ⟨rfl, rfl⟩ := e
    refine ⟨g, rfl, ?_⟩
    rw [h.cellAt _ (by omega)]
    exact hv
theorem inElem {z : Int} (h : i64 z) : plainElem (H := Value) Try.prog 3 (.int .i64 z) = some (.lit (.int .i64 z), []) := by
  unfold plainElem
  rw [ikUndInt]
  exact if_pos ⟨rfl, ik_wf h⟩
theorem inElem_inv {v : Value} {z : Int} {ps : List MemPlace} (h : plainElem (H := Value) Try.prog 3 v = some (.lit (.int .i64 z), ps)) : v = .int .i64 z := by
  unfold plainElem at h
  rw [ikUndInt] at h
  cases v <;> simp_all
theorem ldI_run {o : Oper} {ρ : Operand → Value} {w : World} (x : Operand) (ho : o.op = .load 107 x) (p : Addr) (hx : ρ x = .pointer (some p)) (v : Value) (hc : w.cell? p = some v) : (execOp ρ o).run Try.prog w = .ok (.value v) w := by
  unfold execOp
  simp only [ho, hx]
  simp [go_sem, hc]
theorem lkI_run {o : Oper} {ρ : Operand → Value} {w : World} (x y : Operand) (ho : o.op = .lookup 107 x y true) {mv kv v : Value} (hx : ρ x = mv) (hy : ρ y = kv) (hr : (Instr.lookup 107 mv kv true).run Try.prog w = .ok v w) : (execOp ρ o).run Try.prog w = .ok (.value v) w := by
  unfold execOp
  simp only [ho, hx, hy, Sem.run_bind, hr, Result.andThen_ok, Sem.run_pure]
set_option maxRecDepth 100000 in
/-- what a look-up of an id gives. -/
theorem spot_look {L : IL} (hok : ∀ x ∈ L.ids, x.ok) (hn : L.ids.Nodup) (x : Ik) (hx : x.ok) :
    ∃ z : Int, (∀ i (h : i < L.length), L[i].1 = x → z = i) ∧ ∀ (W : World) (b : Nat), W.ownsMap Try.prog 31 (plainElem Try.prog 3) b L.length (dN idx L.ids L.length) →
      (Instr.lookup 107 (.map (some b)) (.agg #[.int .i64 x.a, .int .i64 x.n]) true).run Try.prog W = .ok (.tuple #[.int .i64 z, .bool (decide (x ∈ L.ids))]) W := by
  have hlen := IL.ids_len L
  have hhas : Maps.has (dN idx L.ids L.length) x.key = decide (x ∈ L.ids) := by
    rw [Bool.eq_iff_iff, decide_eq_true_eq, dN_has idx hok x hx L.length (by omega)]
    constructor
    · rintro ⟨i, h, -, rfl⟩; exact List.getElem_mem h
    · intro h
      obtain ⟨i, hi, e⟩ := List.mem_iff_getElem.1 h
      exact ⟨i, hi, by omega, e⟩
  by_cases hx' : x ∈ L.ids
  · obtain ⟨i, hi, e⟩ := List.mem_iff_getElem.1 hx'
    refine ⟨i, fun j hj ej => ?_, fun W b hm => ?_⟩
    · have e2 : L.ids[j]'(by omega) = x := by simpa [IL.ids] using ej
      have := (List.getElem_inj hn).1 (e.trans e2.symm)
      omega
    · obtain ⟨v, ps, hr, hv⟩ := hm.look_ok ik_law undMpI (zeroIn W) (zd := .lit (.int .i64 0)) (zp := []) (inElem (z := 0) ⟨by omega, by omega⟩) (ik_key x hx)
      have hat := dN_at idx hok hn (.lit (.int .i64 0)) L.length (by omega) i hi (by omega)
      rw [e] at hat
      rw [hat] at hv
      obtain rfl := inElem_inv hv
      rwa [hhas] at hr
  · refine ⟨0, fun j hj ej => absurd (List.mem_map.2 ⟨L[j], List.getElem_mem hj, ej⟩) hx', fun W b hm => ?_⟩
    obtain ⟨v, ps, hr, hv⟩ := hm.look_ok ik_law undMpI (zeroIn W) (zd := .lit (.int .i64 0)) (zp := []) (inElem (z := 0) ⟨by omega, by omega⟩) (ik_key x hx)
    rw [Maps.atKey_of_not_has (by rw [hhas]; exact decide_eq_false hx')] at hv
    obtain rfl := inElem_inv hv
    rwa [hhas] at hr

set_option maxRecDepth 100000 in
set_option maxHeartbeats 2000000 in
theorem placeR_c {w : World} {p : Nat} {L : IL} {Ai Al Aa Av : Option Addr} {ci cl b ca cv : Nat} (h : AxR w p L Ai ci Al cl b Aa ca Av cv) (hok : ∀ x ∈ L.ids, x.ok) (hn : L.ids.Nodup) (hlen : L.length ≤ 1000000) (x : Ik) (hx : x.ok) :
    Calls Try.prog 15 #[.pointer (some ⟨p, 0, none⟩), .agg #[.int .i64 x.a, .int .i64 x.n]] w fun e w' => e = .returned (.tuple #[.int .i64 (((placeL L.alive x).getD 0 : Nat) : Int), .bool (placeL L.alive x).isSome]) ∧ Below w.heap.size w w' := by
  obtain ⟨g, hg⟩ : ∃ g, g = w.heap.size := ⟨_, rfl⟩
  obtain ⟨W, hW⟩ : ∃ W, W = w.alloc (.cells #[.int .i64 x.a, .int .i64 x.n] 31) := ⟨_, rfl⟩
  have hbW : Below w.heap.size w W := by rw [hW]; exact (Below.refl _ w).alloc (Nat.le_refl _) _
  have hk : W.heap[g]? = some (.cells #[.int .i64 x.a, .int .i64 x.n] 31) := by rw [hW, hg]; exact heap_alloc_new w _
  have hA := h.below hbW
  have hA2 : AxR W.drew p L Ai ci Al cl b Aa ca Av cv := hA.below (Below.refl _ W).drew
  obtain ⟨z, hzi, hlk⟩ := spot_look hok hn x hx
  have HR := Lib.hid (readyR_c hA)
  have HG := Lib.hid hg
  have HW := Lib.hid hW
  have HB := Lib.hid hbW
  have HM := Lib.hid (fun (wx : World) (hx : Below W.heap.size W wx) => show wx.cell? ⟨p, 2, none⟩ = some (.map (some b)) from cell_of_row wx p 2 _ _ _ (hA.below hx).own)
  have HRG := Lib.hid (fun (wx : World) (hx : Below W.heap.size W wx) => show wx.rangeAt g 0 [.int .i64 x.a, .int .i64 x.n] from fun i v hv => by
    rw [Nat.zero_add]
    exact (cell_of_row wx g i _ _ _ ((hx.block g (Array.getElem?_eq_some_iff.1 hk).1).trans hk)).trans (by simpa using hv))
  have HLK := Lib.hid (fun (wx : World) (hx' : Below W.heap.size W wx) => hlk wx b (hA.below hx').map)
  have HIL := Lib.hid (show (Try.prog.info? 31).map (·.size) = some [Value.int .i64 x.a, Value.int .i64 x.n].length from infIk)
  have HA2 := Lib.hid hA2
  have HZ := Lib.hid hzi
  have HN := Lib.hid hn
  have HX := Lib.hid hok
  have HXO := Lib.hid hx
  obtain ⟨f, hf⟩ : ∃ f, decide (x ∈ L.ids) = f := ⟨_, rfl⟩
  rw [hf] at HLK
  have HF := Lib.hid hf
  obtain ⟨r, hr⟩ : ∃ r, placeL L.alive x = r := ⟨_, rfl⟩
  rw [hr]
  have HRR := Lib.hid hr
  clear hA hA2 hbW hk hW hg h hlk hzi hok hn hx hf hr
  obtain ⟨xa, xn⟩ := x
  dsimp only at HRG HIL HLK ⊢
  go_enter Try.func15, Try.ntmps15
  go_upto_region 1 with (fail)
  rw [← HW.out, ← HG.out]
  go_upto_region 4 with (go_at_call 42; refine HR.out.mono ?_; rintro e w' ⟨rfl, rfl⟩)
  refine wp_region_held_drew (S := fun wx => Below w'.heap.size w' wx) (by kernel_rfl) (Below.refl _ w').drew (fun hHeld => ?_)
  refine wpAnyH_take (i := 0) (v := .pointer (some ⟨p, 0, none⟩)) rfl (by kernel_rfl) (by kernel_rfl) (by kernel_rfl) (fun _ _ _ h => h) (Or.inl ⟨by kernel_rfl, fun _ hS => by kernel_rfl⟩) hHeld ?_
  (try simp only [Act.put, List.getElem_toArray, List.getElem_cons_succ, List.getElem_cons_zero, List.setIfInBounds_toArray, List.set_cons_zero, List.set_cons_succ])
  refine wpAnyH_take (i := 1) (v := .pointer (some ⟨p, 0, none⟩)) rfl (by kernel_rfl) (by kernel_rfl) (by kernel_rfl) (fun _ _ _ h => h) (Or.inl ⟨by kernel_rfl, fun _ hS => by kernel_rfl⟩) hHeld ?_
  (try simp only [Act.put, List.getElem_toArray, List.getElem_cons_succ, List.getElem_cons_zero, List.setIfInBounds_toArray, List.set_cons_zero, List.set_cons_succ])
  refine wpAnyH_take (i := 2) (v := .pointer (some ⟨p, 2, none⟩)) rfl (by kernel_rfl) (by kernel_rfl) (by kernel_rfl) (fun _ _ _ h => h) (Or.inl ⟨by kernel_rfl, fun _ hS => by kernel_rfl⟩) hHeld ?_
  (try simp only [Act.put, List.getElem_toArray, List.getElem_cons_succ, List.getElem_cons_zero, List.setIfInBounds_toArray, List.set_cons_zero, List.set_cons_succ])
  refine wpAnyH_take (i := 3) (v := .map (some b)) rfl (by kernel_rfl) (by kernel_rfl) (by kernel_rfl) (fun _ _ _ h => h) (Or.inl ⟨by kernel_rfl, fun _ hS => ldI_run _ rfl ⟨p, 2, none⟩ rfl _ (HM.out _ hS)⟩) hHeld ?_
  (try simp only [Act.put, List.getElem_toArray, List.getElem_cons_succ, List.getElem_cons_zero, List.setIfInBounds_toArray, List.set_cons_zero, List.set_cons_succ])
  refine wpAnyH_take (i := 4) (v := .agg #[.int .i64 xa, .int .i64 xn]) rfl (by kernel_rfl) (by kernel_rfl) (by kernel_rfl) (fun _ _ _ h => h) (yieldsIf_load_mid (by kernel_rfl) 31 _ rfl g 0 rfl [.int .i64 xa, .int .i64 xn] _ (fun _ hS => HRG.out _ hS) ikUnd rfl HIL.out) hHeld ?_
  (try simp only [Act.put, List.getElem_toArray, List.getElem_cons_succ, List.getElem_cons_zero, List.setIfInBounds_toArray, List.set_cons_zero, List.set_cons_succ])
  refine wpAnyH_take (i := 5) (v := .tuple #[.int .i64 z, .bool f]) rfl (by kernel_rfl) (by kernel_rfl) (by kernel_rfl) (fun _ _ _ h => h) (Or.inl ⟨by kernel_rfl, fun _ hS => lkI_run (mv := .map (some b)) (kv := .agg #[.int .i64 xa, .int .i64 xn]) _ _ rfl rfl rfl (HLK.out _ hS)⟩) hHeld ?_
  (try simp only [Act.put, List.getElem_toArray, List.getElem_cons_succ, List.getElem_cons_zero, List.setIfInBounds_toArray, List.set_cons_zero, List.set_cons_succ])
  refine wpAnyH_take (i := 6) (v := .tuple #[.int .i64 z, .bool f]) rfl (by kernel_rfl) (by kernel_rfl) (by kernel_rfl) (fun _ _ _ h => h) (Or.inl ⟨by kernel_rfl, fun _ hS => by kernel_rfl⟩) hHeld ?_
  (try simp only [Act.put, List.getElem_toArray, List.getElem_cons_succ, List.getElem_cons_zero, List.setIfInBounds_toArray, List.set_cons_zero, List.set_cons_succ])
  refine wpAnyH_take (i := 7) (v := .int .i64 z) rfl (by kernel_rfl) (by kernel_rfl) (by kernel_rfl) (fun _ _ _ h => h) (Or.inl ⟨by kernel_rfl, fun _ hS => by kernel_rfl⟩) hHeld ?_
  (try simp only [Act.put, List.getElem_toArray, List.getElem_cons_succ, List.getElem_cons_zero, List.setIfInBounds_toArray, List.set_cons_zero, List.set_cons_succ])
  refine wpAnyH_take (i := 8) (v := .bool f) rfl (by kernel_rfl) (by kernel_rfl) (by kernel_rfl) (fun _ _ _ h => h) (Or.inl ⟨by kernel_rfl, fun _ hS => by kernel_rfl⟩) hHeld ?_
  (try simp only [Act.put, List.getElem_toArray, List.getElem_cons_succ, List.getElem_cons_zero, List.setIfInBounds_toArray, List.set_cons_zero, List.set_cons_succ])
  refine wpAnyH_take (i := 9) (v := .int .i64 z) rfl (by kernel_rfl) (by kernel_rfl) (by kernel_rfl) (fun _ _ _ h => h) (Or.inl ⟨by kernel_rfl, fun _ hS => by kernel_rfl⟩) hHeld ?_
  (try simp only [Act.put, List.getElem_toArray, List.getElem_cons_succ, List.getElem_cons_zero, List.setIfInBounds_toArray, List.set_cons_zero, List.set_cons_succ])
  refine wpAnyH_take (i := 10) (v := .bool f) rfl (by kernel_rfl) (by kernel_rfl) (by kernel_rfl) (fun _ _ _ h => h) (Or.inl ⟨by kernel_rfl, fun _ hS => by kernel_rfl⟩) hHeld ?_
  (try simp only [Act.put, List.getElem_toArray, List.getElem_cons_succ, List.getElem_cons_zero, List.setIfInBounds_toArray, List.set_cons_zero, List.set_cons_succ])
  refine wpAnyH_done (by kernel_rfl) ?_ _
  clear hHeld
  have HBF := Lib.hid (show Below w.heap.size w w'.drew from HB.out.drew)
  obtain ⟨W4, hW4⟩ : ∃ W4, W4 = w'.drew := ⟨_, rfl⟩
  rw [← hW4] at HBF HA2 ⊢
  clear hW4
  obtain ⟨n, hne⟩ : ∃ n, List.length L = n := ⟨_, rfl⟩
  have c1 : W4.cell? ⟨p, 1, none⟩ = some (.slice Al n cl) := hne ▸ cell_of_row _ _ 1 _ _ _ HA2.out.own
  have c3 : W4.cell? ⟨p, 3, none⟩ = some (.slice Aa n ca) := hne ▸ cell_of_row _ _ 3 _ _ _ HA2.out.own
  have hcl : n ≤ cl ∧ cl ≤ 9223372036854775807 := by obtain ⟨_, _, e, h1, h2⟩ := own_parts HA2.out.lives; cases e; rw [← hne]; exact ⟨h1, h2⟩
  have hca : n ≤ ca ∧ ca ≤ 9223372036854775807 := by obtain ⟨_, _, e, h1, h2⟩ := own_parts HA2.out.ahead; cases e; rw [← hne]; exact ⟨h1, h2⟩
  obtain ⟨hl1, hl2⟩ := hcl
  obtain ⟨ha1, ha2⟩ := hca
  rw [hne] at hlen
  have HNE := Lib.hid hne
  clear hne HR HM HRG HLK HIL HW HG
  cases f with
  | false =>
    obtain rfl : r = none := by rw [← HRR.out]; exact IL.place_out (by simpa using HF.out)
    go_wp2
    first | go_ret | go_ret2
    exact ⟨rfl, HBF.out⟩
  | true =>
    have hmem : (⟨xa, xn⟩ : Ik) ∈ L.ids := of_decide_eq_true HF.out
    obtain ⟨i, hi0, ei0⟩ := List.mem_iff_getElem.1 hmem
    have hi : i < List.length L := by rw [← IL.ids_len]; exact hi0
    have ei : L[i].1 = ⟨xa, xn⟩ := by simpa [IL.ids] using ei0
    obtain rfl : z = i := HZ.out i hi ei
    have hin : i < n := by rw [← HNE.out]; exact hi
    have hlv : L.lives[i]? = some (.bool L[i].2) := by unfold IL.lives; rw [List.getElem?_map, List.getElem?_eq_getElem hi]; rfl
    have hah : (L.ahead (List.length L))[i]? = some (.int .i64 ((IL.alive (L.take i)).length : Nat)) := by unfold IL.ahead; rw [List.getElem?_map, List.getElem?_range hi]; rfl
    obtain ⟨gl, hgl, hcl⟩ := own1_at HA2.out.lives hi hlv
    obtain ⟨ga, hga, hca⟩ := own1_at HA2.out.ahead hi hah
    subst hgl
    subst hga
    have hpl := fun h => IL.place_live HN.out hi h
    have hpd := fun h => IL.place_dead HN.out hi h
    rw [ei] at hpl hpd
    generalize (IL.alive (L.take i)).length = q at hca hpl
    generalize L[i].2 = lv at hcl hpl hpd
    have i0 : (0 : Int) ≤ (i : Int) := by omega
    have i1 : (i : Int) < (n : Int) := by omega
    cases lv with
    | true =>
      obtain rfl : r = some q := by rw [← HRR.out]; exact hpl rfl
      clear hpl hpd hlv hah hmem hi0 ei0 hi ei
      go_wp2
      first | go_ret | go_ret2
      exact ⟨rfl, HBF.out⟩
    | false =>
      obtain rfl : r = none := by rw [← HRR.out]; exact hpd rfl
      clear hpl hpd hlv hah hmem hi0 ei0 hi ei
      go_wp2
      first | go_ret | go_ret2
      exact ⟨rfl, HBF.out⟩
end Go.Proofs.Ytbkmnboicihchaa
