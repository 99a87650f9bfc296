/- fill's way and gone. -/
import Derived.Test.YtbkmnboicihchaaIh
import Derived.Test.YtbkmnboicihchaaHb
namespace Go.Proofs.Ytbkmnboicihchaa
set_option linter.unusedSimpArgs false
set_option linter.unusedVariables false
open Go Go.RowKit Go.Shelf Go.Maps

theorem placeRd_c {w : World} {p : Nat} {L : IL} (h : AxRd w p L) (hgd : L.Ok) (x : Ik) (hx : x.ok) :
    Calls Try.prog 15 #[.pointer (some ⟨p, 0, none⟩), .agg #[.int .i64 x.a, .int .i64 x.n]] w fun e w' => e = .returned (.tuple #[.int .i64 (((placeL L.alive x).getD 0 : Nat) : Int), .bool (placeL L.alive x).isSome]) ∧ Below w.heap.size w w' := by
  obtain ⟨Ai, ci, Al, cl, b, Aa, ca, Av, cv, h⟩ := h
  exact placeR_c h hgd.ok hgd.nodup (by have := hgd.len; omega) x hx
theorem atRd_c {w : World} {p : Nat} {L : IL} (h : AxRd w p L) (hgd : L.Ok) (k : Int) :
    Calls Try.prog 50 #[.pointer (some ⟨p, 0, none⟩), .int .i64 k] w fun e w' => e = .returned (.tuple #[.agg #[.int .i64 (atL L.alive k).1.a, .int .i64 (atL L.alive k).1.n], .bool (atL L.alive k).2]) ∧ Below w.heap.size w w' := by
  obtain ⟨Ai, ci, Al, cl, b, Aa, ca, Av, cv, h⟩ := h
  exact atR_c h k (by have := hgd.len; have := IL.alive_len L; omega)
/-- the way, as it is told. -/
def wayZ (l : List Ik) (x y : Ik) : Int := (((placeL l y).getD 0 : Nat) : Int) - (((placeL l x).getD 0 : Nat) : Int)
theorem wayI_isSome (l : List Ik) (x y : Ik) : (wayI l x y).isSome = ((placeL l x).isSome && (placeL l y).isSome) := by
  unfold wayI
  cases placeL l x <;> cases placeL l y <;> rfl
theorem wayI_wayZ {l : List Ik} {x y : Ik} {d : Int} (h : wayI l x y = some d) : d = wayZ l x y := by
  obtain ⟨p, q, h1, h2, rfl⟩ := wayI_some h
  unfold wayZ
  rw [h1, h2]
  rfl
theorem placeL_le {l : List Ik} (x : Ik) : (placeL l x).getD 0 ≤ l.length := by
  cases h : placeL l x with
  | none => simp
  | some k => obtain ⟨h1, -⟩ := placeL_some h; simpa using Nat.le_of_lt h1
set_option maxRecDepth 100000 in
set_option maxHeartbeats 2000000 in
theorem wayW_c {w : World} {p : Nat} {L : IL} (h : AxW w p L) (hgd : L.Ok) (x y : Ik) (hx : x.ok) (hy : y.ok) :
    Calls Try.prog 43 #[.pointer (some ⟨p, 0, none⟩), .agg #[.int .i64 x.a, .int .i64 x.n], .agg #[.int .i64 y.a, .int .i64 y.n]] w fun e w' => e = .returned (.tuple #[.int .i64 (wayZ L.alive x y), .bool (wayI L.alive x y).isSome]) ∧ AxRd w' p L ∧ KeepA p w w' := by
  obtain ⟨g, hg⟩ : ∃ g, g = w.heap.size := ⟨_, rfl⟩
  obtain ⟨W, hW⟩ : ∃ W, W = (w.alloc (.cells #[.int .i64 x.a, .int .i64 x.n] 31)).alloc (.cells #[.int .i64 y.a, .int .i64 y.n] 31) := ⟨_, rfl⟩
  have hbW : Below w.heap.size w W := by rw [hW]; exact ((Below.refl _ w).alloc (Nat.le_refl _) _).alloc (by simp) _
  have hk : W.heap[g]? = some (.cells #[.int .i64 x.a, .int .i64 x.n] 31) := by rw [hW, hg]; exact (heapOld _ _ _ (by simp)).trans (heap_alloc_new w _)
  have hk2 : W.heap[g + 1]? = some (.cells #[.int .i64 y.a, .int .i64 y.n] 31) := by
    rw [hW, hg]; have := heap_alloc_new (w.alloc (.cells #[.int .i64 x.a, .int .i64 x.n] 31)) (.cells #[.int .i64 y.a, .int .i64 y.n] 31); rwa [World.size_alloc] at this
  have hpg : p < g := by rw [hg]; exact h.lt
  have hsz : W.heap.size = g + 2 := by rw [hW, hg]; simp
  have HP1 := Lib.hid (placeW_c (h.below hbW) hgd x hx)
  have HP2 := Lib.hid (fun (W : World) (h : AxRd W p L) => placeRd_c h hgd y hy)
  have HIA := Lib.hid (show ∀ a b : Value, (Try.prog.info? 31).map (·.size) = some (#[a, b] : Array Value).size from fun _ _ => infIk)
  have la := hgd.len
  have lb := IL.alive_len L
  have l1 := placeL_le (l := L.alive) x
  have l2 := placeL_le (l := L.alive) y
  unfold wayZ
  rw [wayI_isSome]
  generalize (placeL L.alive x).isSome = fx at HP1 ⊢
  generalize (placeL L.alive y).isSome = fy at HP2 ⊢
  obtain ⟨zx, hzx⟩ : ∃ zx, (placeL L.alive x).getD 0 = zx := ⟨_, rfl⟩
  obtain ⟨zy, hzy⟩ : ∃ zy, (placeL L.alive y).getD 0 = zy := ⟨_, rfl⟩
  rw [hzx] at l1 HP1 ⊢
  rw [hzy] at l2 HP2 ⊢
  have l3 : zx ≤ 1000 := by omega
  have l4 : zy ≤ 1000 := by omega
  have HG := Lib.hid hg
  have HB := Lib.hid hbW
  have HK := Lib.hid hk
  have HK2 := Lib.hid hk2
  have HPG := Lib.hid hpg
  have HS := Lib.hid hsz
  clear hg hbW hk hk2 hpg hsz h hgd hx hy la lb l1 l2 hzx hzy
  obtain ⟨xa, xn⟩ := x
  obtain ⟨ya, yn⟩ := y
  have HW := Lib.hid hW
  clear hW
  dsimp only at HP1 HP2 HK HK2 HW ⊢
  go_enter Try.func43, Try.ntmps43
  go_upto_region 1 with (fail)
  rw [← HW.out, ← HG.out]
  go_upto_region 2 with (first | (refine wpList_row rfl 31 _ rfl g rfl 31 #[.int .i64 xa, .int .i64 xn] (0, 0) _ HK.out ikUnd rfl (HIA.out _ _) ?_) | (go_at_call 15; refine HP1.out.mono ?_; rintro e w1 ⟨rfl, hRD⟩; have HRD := Lib.hid hRD; clear hRD))
  have hk3 : w1.heap[g + 1]? = some (.cells #[.int .i64 ya, .int .i64 yn] 31) := (HRD.out.2.block (g + 1) (Array.getElem?_eq_some_iff.1 HK2.out).1 (by have := HPG.out; omega)).trans HK2.out
  have HK3 := Lib.hid hk3
  have HP3 := Lib.hid (HP2.out w1 HRD.out.1)
  clear hk3
  go_upto_region 3 with (first | (refine wpList_row rfl 31 _ rfl (g + 1) rfl 31 #[.int .i64 ya, .int .i64 yn] (0, 0) _ HK3.out ikUnd rfl (HIA.out _ _) ?_) | (go_at_call 15; refine HP3.out.mono ?_; rintro e w2 ⟨rfl, hRE⟩; have HRE := Lib.hid hRE; clear hRE))
  have HF := Lib.hid (show AxRd w2 p L ∧ KeepA p w w2 from ⟨HRD.out.1.below HRE.out, ((KeepA.of HB.out).trans HRD.out.2).trans (KeepA.of HRE.out)⟩)
  clear HP1 HP2 HP3 HRD HRE HK HK2 HK3 HW HS HB HG HPG HIA
  have hwz : wrap64 ((zy : Int) - zx) = (zy : Int) - zx := by unfold wrap64; omega
  have HWZ := Lib.hid hwz
  clear hwz
  cases fx <;> cases fy <;> (go_wp2; first | go_ret | go_ret2; refine ⟨?_, HF.out⟩; first | rfl | (go_num) | skip)
end Go.Proofs.Ytbkmnboicihchaa
