/- Axes in memory, where all is ready: ready, Len, At, Place. -/
import Derived.Test.YtbkmnboicihchaaIb
import Derived.Deep.MidRow
import Derived.Deep.RegionHeld
namespace Go.Proofs.Ytbkmnboicihchaa
set_option linter.unusedSimpArgs false
set_option linter.unusedVariables false
open Go Go.RowKit Go.Shelf Go.Maps

theorem undAx : Try.prog.underlying 110 = some (.struct (Try.prog.fieldsOf 110)) := by kernel_rfl
theorem undMpI : Try.prog.underlying 107 = some (.map 31 3) := by kernel_rfl
theorem neMapN (w : World) (g : Nat) : (binOp .neq 107 (.map (some g)) (.map none)).run Try.prog w = .ok (.bool true) w := by kernel_rfl
theorem neMapNN (w : World) : (binOp .neq 107 (.map none) (.map none)).run Try.prog w = .ok (.bool false) w := by kernel_rfl
theorem zeroIn (w : World) : (zeroValue 3).run Try.prog w = .ok (.int .i64 0) w := by kernel_rfl
/-- an axis of which all is ready. -/
structure AxR (W : World) (p : Nat) (L : IL) (Ai : Option Addr) (ci : Nat) (Al : Option Addr) (cl : Nat) (b : Nat) (Aa : Option Addr) (ca : Nat) (Av : Option Addr) (cv : Nat) : Prop where
  own : W.heap[p]? = some (.cells (axCs (.slice Ai L.length ci) (.slice Al L.length cl) (some b) (.slice Aa L.length ca) (.slice Av L.alive.length cv)) 110)
  ids : W.ownsRow 0 31 2 (.slice Ai L.length ci) L.length (ikCells L.ids)
  lives : W.ownsRow 0 4 1 (.slice Al L.length cl) L.length L.lives
  map : W.ownsMap Try.prog 31 (plainElem Try.prog 3) b L.length (dN idx L.ids L.length)
  ahead : W.ownsRow 0 3 1 (.slice Aa L.length ca) L.length (L.ahead L.length)
  alive : W.ownsRow 0 31 2 (.slice Av L.alive.length cv) L.alive.length (ikCells L.alive)
theorem AxR.below {W W' : World} {p : Nat} {L : IL} {Ai Al Aa Av : Option Addr} {ci cl b ca cv : Nat} (h : AxR W p L Ai ci Al cl b Aa ca Av cv) (hb : Below W.heap.size W W') : AxR W' p L Ai ci Al cl b Aa ca Av cv := by
  have hs : ∀ {e : TypeId} {size : Nat} {v : Value} {n : Nat} {xs : List Value}, W.ownsRow 0 e size v n xs → W'.ownsRow 0 e size v n xs := fun h => own_sameA h (fun g cs hg _ => hb.block g (Array.getElem?_eq_some_iff.1 hg).1)
  refine ⟨(hb.block p (Array.getElem?_eq_some_iff.1 h.own).1).trans h.own, hs h.ids, hs h.lives, ?_, hs h.ahead, hs h.alive⟩
  obtain ⟨es, clock, e1, e2⟩ := h.map
  exact ⟨es, clock, (hb.block b (Array.getElem?_eq_some_iff.1 e1).1).trans e1, e2⟩
set_option maxRecDepth 100000 in
theorem readyR_c {w : World} {p : Nat} {L : IL} {Ai Al Aa Av : Option Addr} {ci cl b ca cv : Nat} (h : AxR w p L Ai ci Al cl b Aa ca Av cv) :
    Calls Try.prog 42 #[.pointer (some ⟨p, 0, none⟩)] w fun e w' => e = .returned (.tuple #[]) ∧ w' = w := by
  have c2 : w.cell? ⟨p, 2, none⟩ = some (.map (some b)) := cell_of_row _ _ 2 _ _ _ h.own
  have hne := fun w => neMapN w b
  clear h
  go_enter Try.func42, Try.ntmps42
  go_wp2
  refine bodyPost_ret (v := .tuple #[]) (results_none rfl _ _ _) rfl ?_
  exact ⟨rfl, rfl⟩
set_option maxRecDepth 100000 in
theorem lenR_c {w : World} {p : Nat} {L : IL} {Ai Al Aa Av : Option Addr} {ci cl b ca cv : Nat} (h : AxR w p L Ai ci Al cl b Aa ca Av cv) :
    Calls Try.prog 25 #[.pointer (some ⟨p, 0, none⟩)] w fun e w' => e = .returned (.int .i64 (L.alive.length : Nat)) ∧ w' = w := by
  have HR := Lib.hid (readyR_c h)
  obtain ⟨m, hm⟩ : ∃ m, L.alive.length = m := ⟨_, rfl⟩
  have c4 : w.cell? ⟨p, 4, none⟩ = some (.slice Av m cv) := hm ▸ cell_of_row _ _ 4 _ _ _ h.own
  rw [hm]
  clear h hm
  go_enter Try.func25, Try.ntmps25
  go_wp2_with (go_at_call 42; refine HR.out.mono ?_; rintro e w' ⟨rfl, rfl⟩)
  go_ret
  exact ⟨rfl, rfl⟩
/-- what At tells. -/
def atL (l : List Ik) (k : Int) : Ik × Bool := if 0 ≤ k ∧ k < l.length then (l.getD k.toNat ⟨0, 0⟩, true) else (⟨0, 0⟩, false)
theorem results_cell_flagA {P : Program} {fn : Func} {p u : Tmp} {ty : TypeId} (h : fn.results = #[.cell p ty, .tmp u]) (tmps : Array Value) (w : World) (g : Nat) (t : TypeId) (cs : Array Value) (fr : Nat × Nat) (d : TypeDesc)
    (hp : tmps.getD p undef = .pointer (some ⟨g, 0, none⟩)) (hg : w.heap[g]? = some (.cells cs t fr))
    (hu : P.underlying ty = some d) (hd : (match d with | .struct _ | .array _ _ => true | _ => false) = true) (hi : (P.info? ty).map (·.size) = some cs.size) :
    (results fn tmps).run P w = .ok (.tuple #[.agg cs, tmps.getD u undef]) w := by
  have hp' : tmps[p]?.getD undef = .pointer (some ⟨g, 0, none⟩) := by simpa using hp
  simp [results, h, hp', asAddr, run_loadVar_row w g t ty cs fr d hg hu hd hi]
theorem ik_row_at {W : World} {base : Nat} {A : Option Addr} {c : Nat} {l : List Ik} (h : W.ownsRow base 31 2 (.slice A l.length c) l.length (ikCells l)) {k : Nat} (hk : k < l.length) :
    ∃ g, A = some ⟨g, 0, none⟩ ∧ W.rangeAt g (0 + k * 2) [.int .i64 l[k].a, .int .i64 l[k].n] := by
  rcases h.2 with ⟨e, hn⟩ | ⟨g, cap, cur, e, -, hg, -⟩
  · omega
  · simp only [Value.slice.injEq, true_and] at e
    obtain ⟨rfl, rfl⟩ := e
    refine ⟨g, rfl, fun i v hv => ?_⟩
    obtain ⟨h0, h1⟩ := ikCells_get hk
    have hi : i < 2 := (List.getElem?_eq_some_iff.1 hv).1
    have hlt : k * 2 + i < l.length * 2 := by omega
    rw [show (0 : Nat) + k * 2 + i = k * 2 + i by omega, h.cellAt _ hlt]
    match i, hi with
    | 0, _ => rw [show k * 2 + 0 = k * 2 by omega, h0]; exact hv
    | 1, _ => rw [h1]; exact hv
theorem atL_no {l : List Ik} {k : Int} (h : ¬ (0 ≤ k ∧ k < l.length)) : atL l k = (⟨0, 0⟩, false) := if_neg h
theorem atL_yes {l : List Ik} {k : Nat} (h : k < l.length) : atL l (k : Int) = (l[k], true) := by
  unfold atL
  rw [if_pos ⟨by omega, by omega⟩, show ((k : Int)).toNat = k by omega, List.getD_eq_getElem?_getD, List.getElem?_eq_getElem h]
  rfl
set_option maxRecDepth 100000 in
set_option maxHeartbeats 2000000 in
theorem atR_c {w : World} {p : Nat} {L : IL} {Ai Al Aa Av : Option Addr} {ci cl b ca cv : Nat} (h : AxR w p L Ai ci Al cl b Aa ca Av cv) (k : Int) (hm : L.alive.length ≤ 1000000) :
    Calls Try.prog 50 #[.pointer (some ⟨p, 0, none⟩), .int .i64 k] w fun e w' => e = .returned (.tuple #[.agg #[.int .i64 (atL L.alive k).1.a, .int .i64 (atL L.alive k).1.n], .bool (atL L.alive k).2]) ∧ Below w.heap.size w w' := by
  obtain ⟨g, hg⟩ : ∃ g, g = w.heap.size := ⟨_, rfl⟩
  obtain ⟨W, hW⟩ : ∃ W, W = w.alloc (.cells #[.int .i64 0, .int .i64 0] 31) := ⟨_, rfl⟩
  have hbW : Below w.heap.size w W := by rw [hW]; exact (Below.refl _ w).alloc (Nat.le_refl _) _
  have hk : W.heap[g]? = some (.cells #[.int .i64 0, .int .i64 0] 31) := by rw [hW, hg]; exact heap_alloc_new w _
  have hA := h.below hbW
  have HL := Lib.hid (lenR_c hA)
  have HIS := Lib.hid (show ∀ a b : Value, (Try.prog.info? 31).map (·.size) = some (#[a, b] : Array Value).size from fun _ _ => infIk)
  have HB := Lib.hid hbW
  have HG := Lib.hid hg
  have HK := Lib.hid hk
  have HW := Lib.hid hW
  by_cases hin : 0 ≤ k ∧ k < L.alive.length
  · obtain ⟨j, rfl⟩ : ∃ j : Nat, k = j := ⟨k.toNat, by omega⟩
    have hj : j < L.alive.length := by omega
    rw [atL_yes hj]
    obtain ⟨q, hq, hrg⟩ := ik_row_at hA.alive hj
    subst hq
    obtain ⟨m, hme⟩ : ∃ m, L.alive.length = m := ⟨_, rfl⟩
    have c4 : W.cell? ⟨p, 4, none⟩ = some (.slice (some ⟨q, 0, none⟩) m cv) := hme ▸ cell_of_row _ _ 4 _ _ _ hA.own
    have hcv : m ≤ cv ∧ cv ≤ 9223372036854775807 := by obtain ⟨_, _, e, h1, h2⟩ := own_parts hA.alive; cases e; rw [← hme]; exact ⟨h1, h2⟩
    obtain ⟨hc1, hc2⟩ := hcv
    generalize L.alive[j] = x at hrg
    obtain ⟨xa, xn⟩ := x
    rw [Nat.zero_add] at hrg
    have HRG := Lib.hid hrg
    have HIL := Lib.hid (show (Try.prog.info? 31).map (·.size) = some [Value.int .i64 xa, .int .i64 xn].length from infIk)
    rw [hme] at HL hj hm
    have g1 : ¬ (j : Int) < 0 := by omega
    have g2 : ¬ (m : Int) ≤ (j : Int) := by omega
    have g3 : (j : Int) < (m : Int) := by omega
    have g4 : (0 : Int) ≤ (j : Int) := by omega
    clear hA hrg hbW hk hW hg h hin hme
    go_enter Try.func50, Try.ntmps50
    go_upto_region 1 with (fail)
    rw [← HW.out, ← HG.out]
    go_upto_region 3 with (go_at_call 25; refine HL.out.mono ?_; rintro e w' ⟨rfl, rfl⟩)
    go_wp2_with (first | (refine wpList_load_mid rfl 31 _ rfl q (j * 2) rfl [.int .i64 xa, .int .i64 xn] _ HRG.out ikUnd rfl HIL.out ?_) | (refine wpList_store_row rfl 31 _ _ rfl g #[.int .i64 xa, .int .i64 xn] rfl rfl 31 #[.int .i64 0, .int .i64 0] HK.out (HIS.out _ _) rfl (by kernel_rfl) ?_) | fail)
    refine bodyPost_ret (v := .tuple #[.agg #[.int .i64 xa, .int .i64 xn], .bool true]) (results_cell_flagA (p := 4) (u := 5) rfl _ _ g 31 #[.int .i64 xa, .int .i64 xn] (0, 0) _ rfl (setRow_heap _ _ _ _ _ _ HK.out) ikUnd rfl (HIS.out _ _)) rfl ?_
    exact ⟨rfl, below_row HB.out (by rw [HG.out]; exact Nat.le_refl _) _⟩
  · rw [atL_no hin]
    have hkm : k < 0 ∨ ((L.alive.length : Nat) : Int) ≤ k := by omega
    clear hA hbW hk hW hg h hin
    generalize L.alive.length = m at *
    rcases hkm with g1 | g1
    all_goals
      go_enter Try.func50, Try.ntmps50
      go_upto_region 1 with (fail)
      rw [← HW.out, ← HG.out]
    · go_wp2_with (first | (refine wpList_store_row rfl 31 _ _ rfl g #[.int .i64 0, .int .i64 0] rfl rfl 31 #[.int .i64 0, .int .i64 0] HK.out (HIS.out _ _) rfl (by kernel_rfl) ?_) | fail)
      refine bodyPost_ret (v := .tuple #[.agg #[.int .i64 0, .int .i64 0], .bool false]) (results_cell_flagA (p := 4) (u := 5) rfl _ _ g 31 #[.int .i64 0, .int .i64 0] (0, 0) _ rfl (setRow_heap _ _ _ _ _ _ HK.out) ikUnd rfl (HIS.out _ _)) rfl ?_
      exact ⟨rfl, below_row HB.out (by rw [HG.out]; exact Nat.le_refl _) _⟩
    · by_cases g0 : k < 0
      · go_wp2_with (first | (refine wpList_store_row rfl 31 _ _ rfl g #[.int .i64 0, .int .i64 0] rfl rfl 31 #[.int .i64 0, .int .i64 0] HK.out (HIS.out _ _) rfl (by kernel_rfl) ?_) | fail)
        refine bodyPost_ret (v := .tuple #[.agg #[.int .i64 0, .int .i64 0], .bool false]) (results_cell_flagA (p := 4) (u := 5) rfl _ _ g 31 #[.int .i64 0, .int .i64 0] (0, 0) _ rfl (setRow_heap _ _ _ _ _ _ HK.out) ikUnd rfl (HIS.out _ _)) rfl ?_
        exact ⟨rfl, below_row HB.out (by rw [HG.out]; exact Nat.le_refl _) _⟩
      · go_wp2_with (first | (go_at_call 25; refine HL.out.mono ?_; rintro e w' ⟨rfl, rfl⟩) | (refine wpList_store_row rfl 31 _ _ rfl g #[.int .i64 0, .int .i64 0] rfl rfl 31 #[.int .i64 0, .int .i64 0] HK.out (HIS.out _ _) rfl (by kernel_rfl) ?_) | fail)
        refine bodyPost_ret (v := .tuple #[.agg #[.int .i64 0, .int .i64 0], .bool false]) (results_cell_flagA (p := 4) (u := 5) rfl _ _ g 31 #[.int .i64 0, .int .i64 0] (0, 0) _ rfl (setRow_heap _ _ _ _ _ _ HK.out) ikUnd rfl (HIS.out _ _)) rfl ?_
        exact ⟨rfl, below_row HB.out (by rw [HG.out]; exact Nat.le_refl _) _⟩
end Go.Proofs.Ytbkmnboicihchaa
