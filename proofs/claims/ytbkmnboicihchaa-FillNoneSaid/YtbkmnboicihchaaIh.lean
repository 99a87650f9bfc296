/- Axes, ready or not: ready and Place. -/
import Derived.Test.YtbkmnboicihchaaHg
import Derived.Test.YtbkmnboicihchaaHd
namespace Go.Proofs.Ytbkmnboicihchaa
set_option linter.unusedSimpArgs false
set_option linter.unusedVariables false
open Go Go.RowKit Go.Shelf Go.Maps

theorem own_base0 {W : World} {base : Nat} {e : TypeId} {size : Nat} {v : Value} {n : Nat} {xs : List Value} (h : W.ownsRow base e size v n xs) : W.ownsRow 0 e size v n xs := by
  refine ⟨h.1, h.2.elim .inl ?_⟩
  rintro ⟨g, cap, cur, e1, e2, e3, e4⟩
  exact .inr ⟨g, cap, cur, e1, Nat.zero_le _, e3, e4⟩
theorem KeepA.refl (p : Nat) (w : World) : KeepA p w w := ⟨rfl, rfl, rfl, Nat.le_refl _, fun _ _ _ => rfl⟩
theorem KeepA.trans {p : Nat} {a b c : World} (h : KeepA p a b) (h' : KeepA p b c) : KeepA p a c :=
  ⟨h'.os.trans h.os, h'.tape.trans h.tape, h'.output.trans h.output, Nat.le_trans h.size h'.size, fun k hk hn => (h'.block k (Nat.lt_of_lt_of_le hk h.size) hn).trans (h.block k hk hn)⟩
theorem KeepA.of {p : Nat} {a b : World} (h : Below a.heap.size a b) : KeepA p a b := ⟨h.os, h.tape, h.output, h.size, fun k hk _ => h.block k hk⟩
theorem KeepA.drew {p : Nat} {a b : World} (h : KeepA p a b) : KeepA p a b.drew := ⟨h.os, h.tape, h.output, h.size, h.block⟩
/-- an axis of which all is ready. -/
def AxRd (W : World) (p : Nat) (L : IL) : Prop := ∃ Ai ci Al cl b Aa ca Av cv, AxR W p L Ai ci Al cl b Aa ca Av cv
/-- an axis. -/
def AxW (W : World) (p : Nat) (L : IL) : Prop := AxRd W p L ∨ ∃ Ai ci Al cl, AxN W p L Ai ci Al cl
theorem AxRd.below {W W' : World} {p : Nat} {L : IL} (h : AxRd W p L) (hb : Below W.heap.size W W') : AxRd W' p L := by
  obtain ⟨Ai, ci, Al, cl, b, Aa, ca, Av, cv, h⟩ := h
  exact ⟨Ai, ci, Al, cl, b, Aa, ca, Av, cv, h.below hb⟩
theorem AxRd.lt {W : World} {p : Nat} {L : IL} (h : AxRd W p L) : p < W.heap.size := by
  obtain ⟨Ai, ci, Al, cl, b, Aa, ca, Av, cv, h⟩ := h
  exact (Array.getElem?_eq_some_iff.1 h.own).1
theorem AxW.lt {W : World} {p : Nat} {L : IL} (h : AxW W p L) : p < W.heap.size := by
  rcases h with h | ⟨Ai, ci, Al, cl, h⟩
  · exact h.lt
  · exact (Array.getElem?_eq_some_iff.1 h.own).1
/-- another axis' own block is written. -/
theorem AxW.keep {w w' : World} {p q : Nat} {L : IL} (h : AxW w q L) {cs : Array Value} (hp : w.heap[p]? = some (.cells cs 110)) (hk : KeepA p w w') (hne : q ≠ p) : AxW w' q L := by
  have hr : ∀ {e : TypeId} {size : Nat} {v : Value} {n : Nat} {xs : List Value}, w.ownsRow 0 e size v n xs → e ≠ 110 → w'.ownsRow 0 e size v n xs := fun h1 h2 => keep_row hk hp h1 h2
  rcases h with ⟨Ai, ci, Al, cl, b, Aa, ca, Av, cv, h⟩ | ⟨Ai, ci, Al, cl, h⟩
  · refine .inl ⟨Ai, ci, Al, cl, b, Aa, ca, Av, cv, (hk.block q (Array.getElem?_eq_some_iff.1 h.own).1 hne).trans h.own, hr h.ids (by decide), hr h.lives (by decide), ?_, hr h.ahead (by decide), hr h.alive (by decide)⟩
    obtain ⟨es, clock, e1, e2⟩ := h.map
    have hbp : b ≠ p := fun e => by rw [e, hp] at e1; cases e1
    exact ⟨es, clock, (hk.block b (Array.getElem?_eq_some_iff.1 e1).1 hbp).trans e1, e2⟩
  · exact .inr ⟨Ai, ci, Al, cl, (hk.block q (Array.getElem?_eq_some_iff.1 h.own).1 hne).trans h.own, hr h.ids (by decide), hr h.lives (by decide)⟩
theorem AxW.own {w : World} {p : Nat} {L : IL} (h : AxW w p L) : ∃ cs, w.heap[p]? = some (.cells cs 110) := by
  rcases h with ⟨Ai, ci, Al, cl, b, Aa, ca, Av, cv, h⟩ | ⟨Ai, ci, Al, cl, h⟩
  · exact ⟨_, h.own⟩
  · exact ⟨_, h.own⟩
theorem AxW.below {W W' : World} {p : Nat} {L : IL} (h : AxW W p L) (hb : Below W.heap.size W W') : AxW W' p L := by
  rcases h with h | ⟨Ai, ci, Al, cl, h⟩
  · exact .inl (h.below hb)
  · have hs : ∀ {e : TypeId} {size : Nat} {v : Value} {n : Nat} {xs : List Value}, W.ownsRow 0 e size v n xs → W'.ownsRow 0 e size v n xs := fun h => own_sameA h (fun g cs hg _ => hb.block g (Array.getElem?_eq_some_iff.1 hg).1)
    exact .inr ⟨Ai, ci, Al, cl, (hb.block p (Array.getElem?_eq_some_iff.1 h.own).1).trans h.own, hs h.ids, hs h.lives⟩
theorem RDY.ready {w W : World} {p : Nat} {L : IL} {Ai Al : Option Addr} {ci cl : Nat} (h : AxN w p L Ai ci Al cl) (hr : RDY w p L Ai ci Al cl L.length W) : AxRd W p L ∧ KeepA p w W := by
  obtain ⟨⟨ga, Av, cv, h1, h2, h3⟩, hm, hk, hs⟩ := hr
  have e1 : L.take L.length = L := List.take_length
  have e2 : L.ahead L.length ++ List.replicate (L.length - L.length) (Value.int .i64 0) = L.ahead L.length := by simp
  rw [e1] at h1 h3
  rw [e2] at h2
  exact ⟨⟨Ai, ci, Al, cl, _, some ⟨ga, 0, none⟩, L.length, Av, cv, h1, keep_row hk h.own h.ids (by decide), keep_row hk h.own h.lives (by decide), hm, own_base0 h2, own_base0 h3⟩, hk⟩
/-- an axis is made ready. -/
theorem readyW_c {w : World} {p : Nat} {L : IL} (h : AxW w p L) (hg : L.Ok) :
    Calls Try.prog 42 #[.pointer (some ⟨p, 0, none⟩)] w fun e w' => e = .returned (.tuple #[]) ∧ AxRd w' p L ∧ KeepA p w w' := by
  rcases h with h | ⟨Ai, ci, Al, cl, h⟩
  · obtain ⟨Ai, ci, Al, cl, b, Aa, ca, Av, cv, hR⟩ := id h
    refine (readyR_c hR).mono ?_
    rintro e w' ⟨rfl, rfl⟩
    exact ⟨rfl, h, KeepA.refl _ _⟩
  · refine (readyN_c h hg.ok hg.nodup hg.len).mono ?_
    rintro e w' ⟨rfl, hr⟩
    exact ⟨rfl, RDY.ready h hr⟩
set_option maxRecDepth 100000 in
set_option maxHeartbeats 2000000 in
theorem placeW_c {w : World} {p : Nat} {L : IL} (h : AxW w p L) (hgd : L.Ok) (x : Ik) (hx : x.ok) :
    Calls Try.prog 15 #[.pointer (some ⟨p, 0, none⟩), .agg #[.int .i64 x.a, .int .i64 x.n]] w fun e w' => e = .returned (.tuple #[.int .i64 (((placeL L.alive x).getD 0 : Nat) : Int), .bool (placeL L.alive x).isSome]) ∧ AxRd w' p L ∧ KeepA p w w' := by
  obtain ⟨g, hg⟩ : ∃ g, g = w.heap.size := ⟨_, rfl⟩
  obtain ⟨W, hW⟩ : ∃ W, W = w.alloc (.cells #[.int .i64 x.a, .int .i64 x.n] 31) := ⟨_, rfl⟩
  have hbW : Below w.heap.size w W := by rw [hW]; exact (Below.refl _ w).alloc (Nat.le_refl _) _
  have hk : W.heap[g]? = some (.cells #[.int .i64 x.a, .int .i64 x.n] 31) := by rw [hW, hg]; exact heap_alloc_new w _
  have hpg : p < g := by rw [hg]; exact h.lt
  have HR := Lib.hid (readyW_c (h.below hbW) hgd)
  obtain ⟨z, hzi, hlk⟩ := spot_look hgd.ok hgd.nodup x hx
  have HG := Lib.hid hg
  have HW := Lib.hid hW
  have HB := Lib.hid hbW
  have HK := Lib.hid hk
  have HPG := Lib.hid hpg
  have HLK0 := Lib.hid hlk
  have HIL := Lib.hid (show (Try.prog.info? 31).map (·.size) = some [Value.int .i64 x.a, Value.int .i64 x.n].length from infIk)
  have HZ := Lib.hid hzi
  have HN := Lib.hid hgd.nodup
  have HXO := Lib.hid hx
  have hlen := hgd.len
  obtain ⟨f, hf⟩ : ∃ f, decide (x ∈ L.ids) = f := ⟨_, rfl⟩
  rw [hf] at HLK0
  have HF := Lib.hid hf
  obtain ⟨r, hr⟩ : ∃ r, placeL L.alive x = r := ⟨_, rfl⟩
  rw [hr]
  have HRR := Lib.hid hr
  clear hbW hk hW hg h hlk hzi hgd hx hf hr hpg
  obtain ⟨xa, xn⟩ := x
  dsimp only at HLK0 HIL HK ⊢
  go_enter Try.func15, Try.ntmps15
  go_upto_region 1 with (fail)
  rw [← HW.out, ← HG.out]
  go_upto_region 4 with (go_at_call 42; refine HR.out.mono ?_; rintro e w' ⟨rfl, hRD⟩; have HRD := Lib.hid hRD; clear hRD)
  obtain ⟨⟨Ai, ci, Al, cl, b, Aa, ca, Av, cv, hA⟩, hK2⟩ := HRD.out
  have hA2 : AxR w'.drew p L Ai ci Al cl b Aa ca Av cv := hA.below (Below.refl _ w').drew
  have hk' : w'.heap[g]? = some (.cells #[.int .i64 xa, .int .i64 xn] 31) := (hK2.block g (Array.getElem?_eq_some_iff.1 HK.out).1 (by have := HPG.out; omega)).trans HK.out
  have HM := Lib.hid (fun (wx : World) (hx : Below w'.heap.size w' wx) => show wx.cell? ⟨p, 2, none⟩ = some (.map (some b)) from cell_of_row wx p 2 _ _ _ (hA.below hx).own)
  have HRG := Lib.hid (fun (wx : World) (hx : Below w'.heap.size w' wx) => show wx.rangeAt g 0 [.int .i64 xa, .int .i64 xn] from fun i v hv => by
    rw [Nat.zero_add]
    exact (cell_of_row wx g i _ _ _ ((hx.block g (Array.getElem?_eq_some_iff.1 hk').1).trans hk')).trans (by simpa using hv))
  have HLK := Lib.hid (fun (wx : World) (hx' : Below w'.heap.size w' wx) => HLK0.out wx b (hA.below hx').map)
  have HA2 := Lib.hid hA2
  have HK3 := Lib.hid (show KeepA p w w'.drew from ((KeepA.of HB.out).trans hK2).drew)
  have HRF := Lib.hid (show AxRd w'.drew p L from ⟨Ai, ci, Al, cl, b, Aa, ca, Av, cv, hA2⟩)
  clear hA hA2 hK2 hk' HRD HLK0 HR
  refine wp_region_held_drew (S := fun wx => Below w'.heap.size w' wx) (by kernel_rfl) (Below.refl _ w').drew (fun hHeld => ?_)
  refine wpAnyH_take (i := 0) (v := .pointer (some ⟨p, 0, none⟩)) rfl (by kernel_rfl) (by kernel_rfl) (by kernel_rfl) (fun _ _ _ h => h) (Or.inl ⟨by kernel_rfl, fun _ hS => by kernel_rfl⟩) hHeld ?_
  (try simp only [Act.put, List.getElem_toArray, List.getElem_cons_succ, List.getElem_cons_zero, List.setIfInBounds_toArray, List.set_cons_zero, List.set_cons_succ])
  refine wpAnyH_take (i := 1) (v := .pointer (some ⟨p, 0, none⟩)) rfl (by kernel_rfl) (by kernel_rfl) (by kernel_rfl) (fun _ _ _ h => h) (Or.inl ⟨by kernel_rfl, fun _ hS => by kernel_rfl⟩) hHeld ?_
  (try simp only [Act.put, List.getElem_toArray, List.getElem_cons_succ, List.getElem_cons_zero, List.setIfInBounds_toArray, List.set_cons_zero, List.set_cons_succ])
  refine wpAnyH_take (i := 2) (v := .pointer (some ⟨p, 2, none⟩)) rfl (by kernel_rfl) (by kernel_rfl) (by kernel_rfl) (fun _ _ _ h => h) (Or.inl ⟨by kernel_rfl, fun _ hS => by kernel_rfl⟩) hHeld ?_
  (try simp only [Act.put, List.getElem_toArray, List.getElem_cons_succ, List.getElem_cons_zero, List.setIfInBounds_toArray, List.set_cons_zero, List.set_cons_succ])
  refine wpAnyH_take (i := 3) (v := .map (some b)) rfl (by kernel_rfl) (by kernel_rfl) (by kernel_rfl) (fun _ _ _ h => h) (Or.inl ⟨by kernel_rfl, fun _ hS => ldI_run _ rfl ⟨p, 2, none⟩ rfl _ (HM.out _ hS)⟩) hHeld ?_
  (try simp only [Act.put, List.getElem_toArray, List.getElem_cons_succ, List.getElem_cons_zero, List.setIfInBounds_toArray, List.set_cons_zero, List.set_cons_succ])
  refine wpAnyH_take (i := 4) (v := .agg #[.int .i64 xa, .int .i64 xn]) rfl (by kernel_rfl) (by kernel_rfl) (by kernel_rfl) (fun _ _ _ h => h) (yieldsIf_load_mid (by kernel_rfl) 31 _ rfl g 0 rfl [.int .i64 xa, .int .i64 xn] _ (fun _ hS => HRG.out _ hS) ikUnd rfl HIL.out) hHeld ?_
  (try simp only [Act.put, List.getElem_toArray, List.getElem_cons_succ, List.getElem_cons_zero, List.setIfInBounds_toArray, List.set_cons_zero, List.set_cons_succ])
  refine wpAnyH_take (i := 5) (v := .tuple #[.int .i64 z, .bool f]) rfl (by kernel_rfl) (by kernel_rfl) (by kernel_rfl) (fun _ _ _ h => h) (Or.inl ⟨by kernel_rfl, fun _ hS => lkI_run (mv := .map (some b)) (kv := .agg #[.int .i64 xa, .int .i64 xn]) _ _ rfl rfl rfl (HLK.out _ hS)⟩) hHeld ?_
  (try simp only [Act.put, List.getElem_toArray, List.getElem_cons_succ, List.getElem_cons_zero, List.setIfInBounds_toArray, List.set_cons_zero, List.set_cons_succ])
  refine wpAnyH_take (i := 6) (v := .tuple #[.int .i64 z, .bool f]) rfl (by kernel_rfl) (by kernel_rfl) (by kernel_rfl) (fun _ _ _ h => h) (Or.inl ⟨by kernel_rfl, fun _ hS => by kernel_rfl⟩) hHeld ?_
  (try simp only [Act.put, List.getElem_toArray, List.getElem_cons_succ, List.getElem_cons_zero, List.setIfInBounds_toArray, List.set_cons_zero, List.set_cons_succ])
  refine wpAnyH_take (i := 7) (v := .int .i64 z) rfl (by kernel_rfl) (by kernel_rfl) (by kernel_rfl) (fun _ _ _ h => h) (Or.inl ⟨by kernel_rfl, fun _ hS => by kernel_rfl⟩) hHeld ?_
  (try simp only [Act.put, List.getElem_toArray, List.getElem_cons_succ, List.getElem_cons_zero, List.setIfInBounds_toArray, List.set_cons_zero, List.set_cons_succ])
  refine wpAnyH_take (i := 8) (v := .bool f) rfl (by kernel_rfl) (by kernel_rfl) (by kernel_rfl) (fun _ _ _ h => h) (Or.inl ⟨by kernel_rfl, fun _ hS => by kernel_rfl⟩) hHeld ?_
  (try simp only [Act.put, List.getElem_toArray, List.getElem_cons_succ, List.getElem_cons_zero, List.setIfInBounds_toArray, List.set_cons_zero, List.set_cons_succ])
  refine wpAnyH_take (i := 9) (v := .int .i64 z) rfl (by kernel_rfl) (by kernel_rfl) (by kernel_rfl) (fun _ _ _ h => h) (Or.inl ⟨by kernel_rfl, fun _ hS => by kernel_rfl⟩) hHeld ?_
  (try simp only [Act.put, List.getElem_toArray, List.getElem_cons_succ, List.getElem_cons_zero, List.setIfInBounds_toArray, List.set_cons_zero, List.set_cons_succ])
  refine wpAnyH_take (i := 10) (v := .bool f) rfl (by kernel_rfl) (by kernel_rfl) (by kernel_rfl) (fun _ _ _ h => h) (Or.inl ⟨by kernel_rfl, fun _ hS => by kernel_rfl⟩) hHeld ?_
  (try simp only [Act.put, List.getElem_toArray, List.getElem_cons_succ, List.getElem_cons_zero, List.setIfInBounds_toArray, List.set_cons_zero, List.set_cons_succ])
  refine wpAnyH_done (by kernel_rfl) ?_ _
  clear hHeld
  have HBF := Lib.hid (show KeepA p w w'.drew from HK3.out)
  obtain ⟨W4, hW4⟩ : ∃ W4, W4 = w'.drew := ⟨_, rfl⟩
  rw [← hW4] at HBF HA2 HRF ⊢
  clear hW4
  obtain ⟨n, hne⟩ : ∃ n, List.length L = n := ⟨_, rfl⟩
  have c1 : W4.cell? ⟨p, 1, none⟩ = some (.slice Al n cl) := hne ▸ cell_of_row _ _ 1 _ _ _ HA2.out.own
  have c3 : W4.cell? ⟨p, 3, none⟩ = some (.slice Aa n ca) := hne ▸ cell_of_row _ _ 3 _ _ _ HA2.out.own
  have hcl : n ≤ cl ∧ cl ≤ 9223372036854775807 := by obtain ⟨_, _, e, h1, h2⟩ := own_parts HA2.out.lives; cases e; rw [← hne]; exact ⟨h1, h2⟩
  have hca : n ≤ ca ∧ ca ≤ 9223372036854775807 := by obtain ⟨_, _, e, h1, h2⟩ := own_parts HA2.out.ahead; cases e; rw [← hne]; exact ⟨h1, h2⟩
  obtain ⟨hl1, hl2⟩ := hcl
  obtain ⟨ha1, ha2⟩ := hca
  rw [hne] at hlen
  have HNE := Lib.hid hne
  clear hne HM HRG HLK HIL HW HG
  cases f with
  | false =>
    obtain rfl : r = none := by rw [← HRR.out]; exact IL.place_out (by simpa using HF.out)
    go_wp2
    first | go_ret | go_ret2
    exact ⟨rfl, HRF.out, HBF.out⟩
  | true =>
    have hmem : (⟨xa, xn⟩ : Ik) ∈ L.ids := of_decide_eq_true HF.out
    obtain ⟨i, hi0, ei0⟩ := List.mem_iff_getElem.1 hmem
    have hi : i < List.length L := by rw [← IL.ids_len]; exact hi0
    have ei : L[i].1 = ⟨xa, xn⟩ := by simpa [IL.ids] using ei0
    obtain rfl : z = i := HZ.out i hi ei
    have hin : i < n := by rw [← HNE.out]; exact hi
    have hlv : L.lives[i]? = some (.bool L[i].2) := by unfold IL.lives; rw [List.getElem?_map, List.getElem?_eq_getElem hi]; rfl
    have hah : (L.ahead (List.length L))[i]? = some (.int .i64 ((IL.alive (L.take i)).length : Nat)) := by unfold IL.ahead; rw [List.getElem?_map, List.getElem?_range hi]; rfl
    obtain ⟨gl, hgl, hcl⟩ := own1_at HA2.out.lives hi hlv
    obtain ⟨ga, hga, hca⟩ := own1_at HA2.out.ahead hi hah
    subst hgl
    subst hga
    have hpl := fun h => IL.place_live HN.out hi h
    have hpd := fun h => IL.place_dead HN.out hi h
    rw [ei] at hpl hpd
    generalize (IL.alive (L.take i)).length = q at hca hpl
    generalize L[i].2 = lv at hcl hpl hpd
    have i0 : (0 : Int) ≤ (i : Int) := by omega
    have i1 : (i : Int) < (n : Int) := by omega
    cases lv with
    | true =>
      obtain rfl : r = some q := by rw [← HRR.out]; exact hpl rfl
      clear hpl hpd hlv hah hmem hi0 ei0 hi ei
      go_wp2
      first | go_ret | go_ret2
      exact ⟨rfl, HRF.out, HBF.out⟩
    | false =>
      obtain rfl : r = none := by rw [← HRR.out]; exact hpd rfl
      clear hpl hpd hlv hah hmem hi0 ei0 hi ei
      go_wp2
      first | go_ret | go_ret2
      exact ⟨rfl, HRF.out, HBF.out⟩
end Go.Proofs.Ytbkmnboicihchaa