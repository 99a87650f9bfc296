/- CellsSame: the walk. What a row's reading of a content gives; the contents of a row. -/
import Derived.Test.YtelombedjkbckaaDoorXhXi
import Derived.Test.YtelombedjkbckaaDoorGtQb
import Derived.Test.YtelombedjkbckaaDoorXaXb
import Derived.Test.YtelombedjkbckaaDoorOgFr
namespace Go.Proofs.YtelombedjkbckaaDoor
open Go Go.RowKit Go.Shelf Go.Sort

/-- is a content more than is looked at? -/
def bigC (x : Ct) : Bool := decide (300 < x.v.text.size) || greatB x.t
def smallI (x : Ct) : Int := if bigC x = true then 0 else 1

set_option maxRecDepth 100000 in
set_option maxHeartbeats 2000000 in
theorem small_c (x : Ct) (w : World) (B : Nat) (A : Option Addr) (c : Nat) (hv : x.v.ok) (hd : x.t.d.ok) (hs : SlAt w B A c x.t.l) (hB : B ≤ w.heap.size) (hsz : x.t.size ≤ 1048576) :
    Calls Tryd.prog 6 #[contV x A c] w fun e w' => e = .returned (.int .i64 (smallI x)) ∧ Below w.heap.size w w' := by
  obtain ⟨W0, hW0⟩ : ∃ W0, W0 = w.alloc (.cells (contA x A c) 36) := ⟨_, rfl⟩
  have hbel : Below w.heap.size w W0 := by rw [hW0]; exact (Below.refl _ w).alloc (Nat.le_refl _) _
  have hz0 : W0.heap.size = w.heap.size + 1 := by rw [hW0]; simp
  have hk0 : W0.heap[w.heap.size]? = some (.cells (contA x A c) 36) := by rw [hW0]; exact heap_alloc_new _ _
  have hG := great_c x.t W0 B A c hd ((hs.below (hbel.mono hB))) (by have := hbel.size; omega) hsz
  have hrow := cont_row hk0
  have ht := hrow.2.1 3 _ rfl
  have hts : x.v.text.size ≤ 9223372036854775807 := hv.2.2.2.1
  have hr7 := hrow.2.2
  have hinf := infNl x.t.d A x.t.l.length c
  obtain ⟨N, hN⟩ : ∃ N, N = nodeA x.t.d A x.t.l.length c := ⟨_, rfl⟩
  rw [nodeV, ← hN] at hG
  rw [← hN] at hr7 hinf
  obtain ⟨CA, hCA⟩ : ∃ C, C = contA x A c := ⟨_, rfl⟩
  obtain ⟨b, hb⟩ : ∃ b, b = w.heap.size := ⟨_, rfl⟩
  rw [contV, ← hCA]
  rw [← hCA] at hW0
  rw [← hb] at ht hr7
  obtain ⟨r, hr⟩ : ∃ r, smallI x = r := ⟨_, rfl⟩
  rw [hr]
  unfold smallI bigC at hr
  obtain ⟨gr, hgr⟩ : ∃ g, greatB x.t = g := ⟨_, rfl⟩
  rw [hgr] at hG hr
  obtain ⟨tx, htx⟩ : ∃ t, x.v.text = t := ⟨_, rfl⟩
  rw [htx] at ht hr hts
  have HG := Lib.hid hG
  have HT := Lib.hid ht
  have HR7 := Lib.hid hr7
  have HI := Lib.hid hinf
  have HW := Lib.hid hW0
  have HB := Lib.hid hb
  have HBL := Lib.hid hbel
  have HR := Lib.hid hr
  clear hG ht hr7 hinf hW0 hb hbel hr hk0 hrow hz0 hgr htx hN hCA hd hv hs hB hsz
  have ht := HT.out
  by_cases hl : 300 < tx.size
  · have q1 : decide ((300 : Int) < (tx.size : Int)) = true := decide_eq_true (by omega)
    go_enter Tryd.func6, Tryd.ntmps6
    go_upto_region 1 with (fail)
    rw [← HW.out, ← HB.out]
    go_wp2
    go_ret
    exact ⟨by rw [← HR.out]; simp [hl], HBL.out⟩
  · have q1 : decide ((300 : Int) < (tx.size : Int)) = false := decide_eq_false (by omega)
    cases gr
    all_goals
      go_enter Tryd.func6, Tryd.ntmps6
      go_upto_region 1 with (fail)
      rw [← HW.out, ← HB.out]
      go_wp2_with (first | (refine wpList_mid rfl 34 _ rfl b 7 rfl N.toList _ HR7.out undN rfl HI.out ?_; simp only [Array.toArray_toList]) | (go_at_call 16; refine HG.out.mono ?_; rintro e w2 ⟨rfl, hbe⟩))
      go_ret
      exact ⟨by rw [← HR.out]; simp [hl], HBL.out.trans (hbe.mono HBL.out.size)⟩

set_option maxRecDepth 100000 in
set_option maxHeartbeats 4000000 in
theorem cellsSame_walk (x y : Ct) (w : World) (A A' : Option Addr) (c c' : Nat) (hv : x.v.ok) (hd : x.t.d.ok) (hs : SlAt w w.heap.size A c x.t.l) (hv' : y.v.ok) (hd' : y.t.d.ok) (hs' : SlAt w w.heap.size A' c' y.t.l) (hz : x.t.size ≤ 1048576) (hz' : y.t.size ≤ 1048576) (ht : Tab w) :
    Calls Tryd.prog 3 #[contV x A c, contV y A' c'] w fun e w' => e = .returned (.bool true) ∧ Below w.heap.size w w' := by
  obtain ⟨W0, hW0⟩ : ∃ W0, W0 = (w.alloc (.cells (contA x A c) 36)).alloc (.cells (contA y A' c') 36) := ⟨_, rfl⟩
  have hbel : Below w.heap.size w W0 := by rw [hW0]; exact ((Below.refl _ w).alloc (Nat.le_refl _) _).alloc (by simp) _
  have hz0 : W0.heap.size = w.heap.size + 2 := by rw [hW0]; simp
  have hk0 : W0.heap[w.heap.size]? = some (.cells (contA x A c) 36) := by rw [hW0]; exact (heapOld _ _ _ (by simp)).trans (heap_alloc_new _ _)
  have hk1 : W0.heap[w.heap.size + 1]? = some (.cells (contA y A' c') 36) := by
    rw [hW0]
    have := heap_alloc_new (w.alloc (.cells (contA x A c) 36)) (.cells (contA y A' c') 36)
    rwa [World.size_alloc] at this
  have hsl : ∀ wx, Below W0.heap.size W0 wx → SlAt wx w.heap.size A c x.t.l := fun wx hx => (hs.below hbel).below (hx.mono (by omega))
  have hsl' : ∀ wx, Below W0.heap.size W0 wx → SlAt wx w.heap.size A' c' y.t.l := fun wx hx => (hs'.below hbel).below (hx.mono (by omega))
  have hle : ∀ wx, Below W0.heap.size W0 wx → w.heap.size ≤ wx.heap.size := fun wx hx => by have := hx.size; omega
  have hSa := fun wx hx => small_c x wx w.heap.size A c hv hd (hsl wx hx) (hle wx hx) hz
  have hSb := fun wx hx => small_c y wx w.heap.size A' c' hv' hd' (hsl' wx hx) (hle wx hx) hz'
  have hS1 := fun wx hx => csame_c x y wx w.heap.size A A' c c' hd (hsl wx hx) hd' (hsl' wx hx) (hle wx hx) (by omega)
  have hS2 := fun wx hx => csame_c y x wx w.heap.size A' A c' c hd' (hsl' wx hx) hd (hsl wx hx) (hle wx hx) (by omega)
  have hS3 := fun wx hx => csame_c x x wx w.heap.size A A c c hd (hsl wx hx) hd (hsl wx hx) (hle wx hx) (by omega)
  have hR := fun wx hx => rcsame_c x y wx w.heap.size A A' c c' hd (hsl wx hx) hd' (hsl' wx hx) (hle wx hx)
  rw [sameC_comm y x] at hS2
  rw [sameC_self] at hS3
  obtain ⟨r, hr⟩ : ∃ r, sameC x y = r := ⟨_, rfl⟩
  rw [hr] at hS1 hS2 hR
  have hkx : ∀ wx, Below W0.heap.size W0 wx → wx.heap[w.heap.size]? = some (.cells (contA x A c) 36) := fun wx hx => (hx.block _ (by omega)).trans hk0
  have hky : ∀ wx, Below W0.heap.size W0 wx → wx.heap[w.heap.size + 1]? = some (.cells (contA y A' c') 36) := fun wx hx => (hx.block _ (by omega)).trans hk1
  have hic := infC
  have hic' := infC
  rw [show (29 : Nat) = (contA x A c).size from rfl] at hic
  rw [show (29 : Nat) = (contA y A' c').size from rfl] at hic'
  simp only [contV] at hSa hSb hS1 hS2 hS3 hR ⊢
  have haw := awake18_c W0 (tab_below ht hbel)
  obtain ⟨CA, hCA⟩ : ∃ C, C = contA x A c := ⟨_, rfl⟩
  obtain ⟨CB, hCB⟩ : ∃ C, C = contA y A' c' := ⟨_, rfl⟩
  obtain ⟨b, hb⟩ : ∃ b, b = w.heap.size := ⟨_, rfl⟩
  rw [← hCA] at hSa hS1 hS2 hS3 hR hkx hic hW0
  rw [← hCB] at hSb hS1 hS2 hR hky hic' hW0
  rw [← hCA, ← hCB]
  rw [← hb] at hkx hky
  obtain ⟨sa, hsa⟩ : ∃ s, smallI x = s := ⟨_, rfl⟩
  obtain ⟨sb, hsb⟩ : ∃ s, smallI y = s := ⟨_, rfl⟩
  rw [hsa] at hSa
  rw [hsb] at hSb
  have hsa' : sa = 0 ∨ sa = 1 := by rw [← hsa]; unfold smallI; split <;> simp
  have hsb' : sb = 0 ∨ sb = 1 := by rw [← hsb]; unfold smallI; split <;> simp
  have HSA := Lib.hid hSa
  have HSB := Lib.hid hSb
  have HS1 := Lib.hid hS1
  have HS2 := Lib.hid hS2
  have HS3 := Lib.hid hS3
  have HR := Lib.hid hR
  have HKX := Lib.hid hkx
  have HKY := Lib.hid hky
  have HIC := Lib.hid hic
  have HIC' := Lib.hid hic'
  have HW := Lib.hid hW0
  have HBL := Lib.hid hbel
  have HB := Lib.hid hb
  have HAW := Lib.hid haw
  clear hSa hSb hS1 hS2 hS3 hR hkx hky hic hic' hW0 hbel hb haw hsl hsl' hle hk0 hk1 hz0 hr hsa hsb hCA hCB hs hs' hd hd' hv hv' hz hz' ht
  go_enter Tryd.func3, Tryd.ntmps3
  go_upto_region 1 with (fail)
  rw [← HW.out, ← HB.out]
  go_wp2_with (fail)
  refine HAW.out.mono ?_
  rintro e w1 ⟨rfl, hb1⟩
  have hkx := HKX.out w1 hb1
  have hky := HKY.out w1 hb1
  have HX := Lib.hid hkx
  have HY := Lib.hid hky
  have hbw : Below w.heap.size w w1 := HBL.out.trans (hb1.mono HBL.out.size)
  have HBW := Lib.hid hbw
  have mk : ∀ {f : Nat} {args : Array Value} {v : Value}, (∀ wx, Below W0.heap.size W0 wx → Calls Tryd.prog f args wx fun e w' => e = .returned v ∧ Below wx.heap.size wx w') → ∀ d os, Calls Tryd.prog f args (grow (redrawn w1 d) os) fun e w'' => e = .returned v ∧ ∃ p : Regrown, w'' = grow (redrawn w1 p.d) p.os := fun h d os =>
    Calls.regrown_of (h _ (hb1.trans ((below_regrown w1 d os).mono hb1.size)))
  have G1 := Lib.hid (mk HSA.out)
  have G2 := Lib.hid (mk HSB.out)
  have G3 := Lib.hid (mk HS1.out)
  have G4 := Lib.hid (mk HS2.out)
  have G5 := Lib.hid (mk HS3.out)
  have G6 := Lib.hid (mk HR.out)
  clear mk HSA HSB HS1 HS2 HS3 HR HKX HKY hkx hky hbw hb1
  rcases hsa' with rfl | rfl
  case' inr => rcases hsb' with rfl | rfl
  case' inr.inr => cases r
  all_goals
    go_wp2
    refine wp_region_quiet_below (by kernel_rfl) (by kernel_rfl) ?_
    repeat (first
      | (go_big_quiet_want; refine quiet_row 36 _ rfl b rfl 36 CA (0, 0) _ HX.out undC rfl HIC.out ?_; simp only [Act.put, List.setIfInBounds_toArray, List.set_cons_zero, List.set_cons_succ]; go_big_quiet_on)
      | (go_big_quiet_want; refine quiet_row 36 _ rfl (b + 1) rfl 36 CB (0, 0) _ HY.out undC rfl HIC'.out ?_; simp only [Act.put, List.setIfInBounds_toArray, List.set_cons_zero, List.set_cons_succ]; go_big_quiet_on)
      | go_big_quiet_step (first | with_reducible exact G1.out _ _ | with_reducible exact G2.out _ _ | with_reducible exact G3.out _ _ | with_reducible exact G4.out _ _ | with_reducible exact G5.out _ _ | with_reducible exact G6.out _ _))
    refine wpQuiet_nil ?_
    rintro w4 ⟨⟨dq, osq⟩, hq4⟩
    have hb4 : Below w1.heap.size w1 w4 := by rw [hq4]; exact below_regrown w1 dq osq
    clear hq4
    go_wp2
    go_ret
    exact ⟨rfl, HBW.out.trans (hb4.mono HBW.out.size)⟩
end Go.Proofs.YtelombedjkbckaaDoor
namespace Go.Proofs.YtelombedjkbckaaDoor
open Go.RowKit Go.ChangeShapes Go.WideShapes Go.ChangeAt

set_option maxHeartbeats 1000000 in
theorem open_content {H : Type} {enc : TypeId × Value → H} {w : World} (fuel : Nat) (cs : List Value) (x : DataW H × List MemPlace) (h : DataW.trod enc Tryd.prog w 0 (fun _ => true) true fuel 36 cs = some x) :
    ∃ (y : Ct) (A : Option Addr) (c : Nat), cs = (contA y A c).toList ∧ y.v.ok ∧ y.t.d.ok ∧ SlAt w w.heap.size A c y.t.l ∧ y.t.within (Rows.uptoBulk x.1) ∧ y.v.text.size ≤ Rows.uptoBulk x.1 := by
  obtain ⟨xs, n, rfl, rfl, hl, hxs, hf⟩ := DataW.trod_struct Tryd.underlying36 h
  have hc : Tryd.prog.cellsOf 36 = 29 := by kernel_rfl
  have h3 : Tryd.prog.cellsOf 3 = 1 := by kernel_rfl
  have h6 : Tryd.prog.cellsOf 25 = 6 := by kernel_rfl
  have h22 : Tryd.prog.cellsOf 34 = 22 := by kernel_rfl
  obtain ⟨y0, e0⟩ := get_some hxs (show 0 < 3 by omega)
  obtain ⟨y1, e1⟩ := get_some hxs (show 1 < 3 by omega)
  obtain ⟨y2, e2⟩ := get_some hxs (show 2 < 3 by omega)
  have f0 : DataW.trod enc Tryd.prog w 0 (fun _ => true) true n 3 ((cs.drop 0).take (Tryd.prog.cellsOf 3)) = some y0 := (hf 0 _ rfl).trans e0
  have f1 : DataW.trod enc Tryd.prog w 0 (fun _ => true) true n 25 ((cs.drop 1).take (Tryd.prog.cellsOf 25)) = some y1 := (hf 1 _ rfl).trans e1
  have f2 : DataW.trod enc Tryd.prog w 0 (fun _ => true) true n 34 ((cs.drop 7).take (Tryd.prog.cellsOf 34)) = some y2 := (hf 2 _ rfl).trans e2
  rw [h3] at f0
  rw [h6] at f1
  rw [h22] at f2
  obtain ⟨k, g0, -, w0⟩ := DataW.trod_int Tryd.underlying3 f0
  obtain ⟨v, g1, w1, z1⟩ := open_value f1
  obtain ⟨t, A, c, g2, w2, w3, w4⟩ := open_node n _ _ f2
  refine ⟨⟨k, v, t⟩, A, c, ?_, w1, w2, w3, ?_, Nat.le_trans z1 (bulk_field xs 1 y1 e1)⟩
  · have c0 := cutL cs 0 1
    have c1 := cutL cs 1 6
    have c2 := cutL cs 7 22
    rw [g0, Nat.zero_add, List.drop_zero] at c0
    rw [g1] at c1
    rw [g2] at c2
    rw [c0, c1, c2, List.drop_of_length_le (by omega)]
    simp [contA, Ct.head]
  · have hb := bulk_field xs 2 y2 e2
    exact ⟨Nat.le_trans w4.1 hb, fun z hz => ⟨Nat.le_trans (w4.2 z hz).1 hb, Nat.le_trans (w4.2 z hz).2 hb⟩⟩
set_option maxRecDepth 100000 in
/-- a content that came in. -/
theorem open_contV {H : Type} {enc : TypeId × Value → H} {w : World} {base : Nat} {v : Value} {d : DataW H} {p : List MemPlace} (hv : Value.okWide Tryd.prog w .any base 36 v) (h : DataW.Trod enc Tryd.prog w 0 (fun _ => true) true 36 v d p) :
    ∃ (y : Ct) (A : Option Addr) (c : Nat), v = contV y A c ∧ y.v.ok ∧ y.t.d.ok ∧ SlAt w w.heap.size A c y.t.l ∧ y.t.within (Rows.uptoBulk d) ∧ y.v.text.size ≤ Rows.uptoBulk d := by
  obtain ⟨cs, rfl, hsz⟩ := okWide_struct Tryd.underlying36 hv
  obtain ⟨fuel, hf⟩ := h
  obtain ⟨t, A, c, h1, h2⟩ := open_content fuel _ _ hf
  refine ⟨t, A, c, ?_, h2⟩
  have : cs = contA t A c := by
    have h1' : cs.toList = (contA t A c).toList := h1
    exact Array.toList_inj.1 h1'
  rw [this]
def zeroCont : Value := .agg #[.int .i64 0, .int .i64 0, .int .i64 0, .int .i64 0, .string ⟨#[]⟩, .bool false, .int .i64 0, .int .i64 0, .int .i64 0, .int .i64 0, .int .i64 0, .string ⟨#[]⟩, .bool false, .int .i64 0, .string ⟨#[]⟩, .int .i64 0, .int .i64 0, .int .i64 0, .int .i64 0, .bool false, .bool false, .int .i64 0, .int .i64 0, .int .i64 0, .int .i64 0, .bool false, .bool false, .int .i64 0, .slice none 0 0]
def zeroContD {H : Type} : DataW H := .agg [.lit (.int .i64 0), .agg [.lit (.int .i64 0), .agg [.lit (.int .i64 0), .lit (.int .i64 0)], .lit (.string []), .lit (.bool false), .lit (.int .i64 0)], zeroNodeD]
end Go.Proofs.YtelombedjkbckaaDoor
