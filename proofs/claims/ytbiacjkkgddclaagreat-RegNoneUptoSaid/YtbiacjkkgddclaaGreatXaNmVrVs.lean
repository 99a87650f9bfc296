/- Contents of cells as plain data; value.Same, cells.Same, the reference's Same. package num: size, count, Right; package value: Of, Text, Truth, Bad, Right. package value: Of, Text, Truth, Bad, Right; tree.rightLit. value.Right; tree.rightLit. -/
import Derived.Test.YtbiacjkkgddclaaGreatStSq
import Derived.Test.YtbiacjkkgddclaaGreatSzAlBa
import Derived.Lib.OthersKept
import Derived.Deep.DrawnRows
namespace Go.Proofs.YtbiacjkkgddclaaGreat
open Go Go.RowKit Go.Shelf

/-- a content. -/
structure Ct where
  k : Int
  v : Vl
  t : Tr
def Ct.head (x : Ct) : List Value := .int .i64 x.k :: x.v.cells
/-- the 29 cells of a content. -/
def contA (x : Ct) (A : Option Addr) (c : Nat) : Array Value := (x.head ++ (nodeA x.t.d A x.t.l.length c).toList).toArray
abbrev contV (x : Ct) (A : Option Addr) (c : Nat) : Value := .agg (contA x A c)
theorem contA_size (x : Ct) (A : Option Addr) (c : Nat) : (contA x A c).size = 29 := rfl
def sameC (x y : Ct) : Bool := decide (x.k = y.k) && (decide (x.v = y.v) && sameB x.t y.t)
theorem sameC_self (x : Ct) : sameC x x = true := by
  have : sameB x.t x.t = true := (sameB_eq _ _).2 rfl
  simp [sameC, this]
theorem infC : (Tryz.prog.info? 37).map (·.size) = some 29 := by kernel_rfl
theorem undC : Tryz.prog.underlying 37 = some (.struct (Tryz.prog.fieldsOf 37)) := by kernel_rfl
theorem undVl : Tryz.prog.underlying 26 = some (.struct (Tryz.prog.fieldsOf 26)) := by kernel_rfl
theorem infVl (v : Vl) : (Tryz.prog.info? 26).map (·.size) = some v.cells.length := by kernel_rfl
theorem infNl (d : ND) (A : Option Addr) (n c : Nat) : (Tryz.prog.info? 35).map (·.size) = some (nodeA d A n c).toList.length := by kernel_rfl

theorem row_range_ {w : World} {g : Nat} {cs : Array Value} {t : TypeId} {fr : Nat × Nat} (h : w.heap[g]? = some (.cells cs t fr)) (o : Nat) (l : List Value) (hl : ∀ j v, l[j]? = some v → cs[o + j]? = some v) : w.rangeAt g o l := by
  intro j v hv
  simp only [World.cell?, h]
  simpa using hl j v hv
/-- what a block that holds a content has. -/
theorem cont_row {w : World} {g : Nat} {x : Ct} {A : Option Addr} {c : Nat} {t : TypeId} {fr : Nat × Nat} (h : w.heap[g]? = some (.cells (contA x A c) t fr)) : w.cell? ⟨g, 0, none⟩ = some (.int .i64 x.k) ∧ w.rangeAt g 1 x.v.cells ∧ w.rangeAt g 7 (nodeA x.t.d A x.t.l.length c).toList := by
  refine ⟨cell_of_row _ _ 0 _ _ _ h, row_range_ h _ _ (fun j v hv => ?_), row_range_ h _ _ (fun j v hv => ?_)⟩
  · have hj : j < 6 := (List.getElem?_eq_some_iff.1 hv).1
    match j, hj with
    | 0, _ => exact hv
    | 1, _ => exact hv
    | 2, _ => exact hv
    | 3, _ => exact hv
    | 4, _ => exact hv
    | 5, _ => exact hv
  · have : (contA x A c)[7 + j]? = (x.head ++ (nodeA x.t.d A x.t.l.length c).toList)[7 + j]? := by simp [contA]
    rw [this, List.getElem?_append_right (by show x.head.length ≤ 7 + j; simp [Ct.head, Vl.cells])]
    have : 7 + j - x.head.length = j := by simp [Ct.head, Vl.cells]
    rw [this]; exact hv

set_option maxRecDepth 100000 in
theorem vsame_c (v v' : Vl) (w : World) : Calls Tryz.prog 68 #[.agg v.cells.toArray, .agg v'.cells.toArray] w fun e w' => e = .returned (.bool (decide (v = v'))) ∧ Below w.heap.size w w' := by
  have hE := fun w => eqV w v v'
  obtain ⟨r, hr⟩ : ∃ r, decide (v = v') = r := ⟨_, rfl⟩
  rw [hr] at hE ⊢
  obtain ⟨k, m, x, s, b, f⟩ := v
  obtain ⟨k', m', x', s', b', f'⟩ := v'
  dsimp only [Vl.cells] at hE ⊢
  clear hr
  go_enter Tryz.func68, Tryz.ntmps68
  go_wp2
  go_ret
  exact ⟨rfl, ((Below.refl _ w).alloc (Nat.le_refl _) _).alloc (by simp) _⟩

set_option maxRecDepth 100000 in
set_option maxHeartbeats 2000000 in
theorem csame_c (x y : Ct) (w : World) (B : Nat) (A A' : Option Addr) (c c' : Nat) (hd : x.t.d.ok) (hs : SlAt w B A c x.t.l) (hd' : y.t.d.ok) (hs' : SlAt w B A' c' y.t.l) (hB : B ≤ w.heap.size) (hsz : x.t.size ≤ 1099511627776) :
    Calls Tryz.prog 53 #[contV x A c, contV y A' c'] w fun e w' => e = .returned (.bool (sameC x y)) ∧ Below w.heap.size w w' := by
  obtain ⟨W0, hW0⟩ : ∃ W0, W0 = (w.alloc (.cells (contA x A c) 37)).alloc (.cells (contA y A' c') 37) := ⟨_, rfl⟩
  have hbel : Below w.heap.size w W0 := by rw [hW0]; exact ((Below.refl _ w).alloc (Nat.le_refl _) _).alloc (by simp) _
  have hz0 : W0.heap.size = w.heap.size + 2 := by rw [hW0]; simp
  have hk0 : W0.heap[w.heap.size]? = some (.cells (contA x A c) 37) := by rw [hW0]; exact (heapOld _ _ _ (by simp)).trans (heap_alloc_new _ _)
  have hk1 : W0.heap[w.heap.size + 1]? = some (.cells (contA y A' c') 37) := by
    rw [hW0]
    have := heap_alloc_new (w.alloc (.cells (contA x A c) 37)) (.cells (contA y A' c') 37)
    rwa [World.size_alloc] at this
  have hT := fun wx (hx : Below W0.heap.size W0 wx) => tsame_c x.t y.t wx B A A' c c' hd ((hs.below (hbel.mono hB)).below (hx.mono (by omega))) hd' ((hs'.below (hbel.mono hB)).below (hx.mono (by omega))) (by have := hx.size; omega) hsz
  have hV := fun wx => vsame_c x.v y.v wx
  have hrow := fun wx (hx : Below W0.heap.size W0 wx) => cont_row ((hx.block w.heap.size (by omega)).trans hk0)
  have hrow' := fun wx (hx : Below W0.heap.size W0 wx) => cont_row ((hx.block (w.heap.size + 1) (by omega)).trans hk1)
  obtain ⟨CA, hCA⟩ : ∃ C, C = contA x A c := ⟨_, rfl⟩
  obtain ⟨CB, hCB⟩ : ∃ C, C = contA y A' c' := ⟨_, rfl⟩
  rw [contV, contV, ← hCA, ← hCB]
  rw [← hCA, ← hCB] at hW0
  have hinf := infNl x.t.d A x.t.l.length c
  have hinf' := infNl y.t.d A' y.t.l.length c'
  have hiv := infVl x.v
  have hiv' := infVl y.v
  obtain ⟨b, hb⟩ : ∃ b, b = w.heap.size := ⟨_, rfl⟩
  have e0 := (hrow W0 (Below.refl _ _)).1
  have e1 := (hrow' W0 (Below.refl _ _)).1
  have hr1 := (hrow W0 (Below.refl _ _)).2.1
  have hr1' := (hrow' W0 (Below.refl _ _)).2.1
  have hr7 := fun wx hx => (hrow wx hx).2.2
  have hr7' := fun wx hx => (hrow' wx hx).2.2
  obtain ⟨r, hr⟩ : ∃ r, sameC x y = r := ⟨_, rfl⟩
  rw [hr]
  simp only [sameC] at hr
  rw [nodeV, nodeV] at hT
  obtain ⟨N, hN⟩ : ∃ N, N = nodeA x.t.d A x.t.l.length c := ⟨_, rfl⟩
  obtain ⟨N', hN'⟩ : ∃ N, N = nodeA y.t.d A' y.t.l.length c' := ⟨_, rfl⟩
  rw [← hN, ← hN'] at hT
  rw [← hN] at hr7 hinf
  rw [← hN'] at hr7' hinf'
  clear hrow hrow' hk0 hk1 hd hs hd' hs' hCA hCB hN hN'
  obtain ⟨k, v, t⟩ := x
  obtain ⟨k', v', t'⟩ := y
  dsimp only at hT hV e0 e1 hr1 hr1' hr7 hr7' hr hinf hinf' hiv hiv'
  obtain ⟨vc, hvc⟩ : ∃ u, u = v.cells := ⟨_, rfl⟩
  obtain ⟨vc', hvc'⟩ : ∃ u, u = v'.cells := ⟨_, rfl⟩
  rw [← hvc] at hV hr1 hiv
  rw [← hvc'] at hV hr1' hiv'
  rw [← hb] at e0 e1 hr1 hr1' hr7 hr7' hz0
  have HT := Lib.hid hT
  have HV := Lib.hid hV
  have HI := Lib.hid hinf
  have HI' := Lib.hid hinf'
  have HJ := Lib.hid hiv
  have HJ' := Lib.hid hiv'
  have HR1 := Lib.hid hr1
  have HR1' := Lib.hid hr1'
  have HR7 := Lib.hid hr7
  have HR7' := Lib.hid hr7'
  have HR := Lib.hid hr
  have HW := Lib.hid hW0
  have HBL := Lib.hid hbel
  clear hT hV hinf hinf' hiv hiv' hr1 hr1' hr7 hr7' hr hW0 hvc hvc' hbel
  have HB := Lib.hid hb
  clear hb
  by_cases ek : k = k'
  case neg =>
    have q1 : (k == k') = false := by simpa using ek
    go_enter Tryz.func53, Tryz.ntmps53
    go_upto_region 1 with (fail)
    rw [← HW.out, ← HB.out]
    go_wp2
    go_ret
    exact ⟨ret_bool (by rw [← HR.out]; simp [ek]), HBL.out⟩
  subst ek
  by_cases ev : v = v'
  case neg =>
    have HV1 : ∀ wx, Calls Tryz.prog 68 #[.agg vc.toArray, .agg vc'.toArray] wx fun e w' => e = .returned (.bool false) ∧ Below wx.heap.size wx w' := fun wx => by have := HV.out wx; rwa [decide_eq_false ev] at this
    go_enter Tryz.func53, Tryz.ntmps53
    go_upto_region 1 with (fail)
    rw [← HW.out, ← HB.out]
    go_wp2_with (first | (refine wpList_mid rfl 26 _ rfl b 1 rfl vc _ HR1.out undVl rfl HJ.out ?_) | (refine wpList_mid rfl 26 _ rfl (b + 1) 1 rfl vc' _ HR1'.out undVl rfl HJ'.out ?_) | (go_at_call 68; refine (HV1 _).mono ?_; rintro e w2 ⟨rfl, hbe⟩))
    go_ret
    exact ⟨ret_bool (by rw [← HR.out]; simp [ev]), HBL.out.trans (hbe.mono HBL.out.size)⟩
  subst ev
  have HV1 : ∀ wx, Calls Tryz.prog 68 #[.agg vc.toArray, .agg vc'.toArray] wx fun e w' => e = .returned (.bool true) ∧ Below wx.heap.size wx w' := fun wx => by have := HV.out wx; rwa [decide_eq_true rfl] at this
  go_enter Tryz.func53, Tryz.ntmps53
  go_upto_region 1 with (fail)
  rw [← HW.out, ← HB.out]
  go_wp2_with (first | (refine wpList_mid rfl 26 _ rfl b 1 rfl vc _ HR1.out undVl rfl HJ.out ?_) | (refine wpList_mid rfl 26 _ rfl (b + 1) 1 rfl vc' _ HR1'.out undVl rfl HJ'.out ?_) | (refine wpList_mid rfl 35 _ rfl b 7 rfl N.toList _ (HR7.out _ hbe) undN rfl HI.out ?_; simp only [Array.toArray_toList]) | (refine wpList_mid rfl 35 _ rfl (b + 1) 7 rfl N'.toList _ (HR7'.out _ hbe) undN rfl HI'.out ?_; simp only [Array.toArray_toList]) | (go_at_call 68; refine (HV1 _).mono ?_; rintro e w2 ⟨rfl, hbe⟩) | (go_at_call 54; refine (HT.out _ hbe).mono ?_; rintro e w3 ⟨rfl, hb3⟩))
  go_ret
  exact ⟨ret_bool (by rw [← HR.out]; simp), HBL.out.trans ((hbe.trans (hb3.mono hbe.size)).mono HBL.out.size)⟩
end Go.Proofs.YtbiacjkkgddclaaGreat
namespace Go.Proofs.YtbiacjkkgddclaaGreat
open Go.RowKit Go.Shelf

/-- how many digits a number has. -/
def digs (n : Nat) : Nat := if h : n < 10 then 1 else digs (n / 10) + 1
termination_by n
decreasing_by omega
theorem digs_small {n : Nat} (h : n < 10) : digs n = 1 := by rw [digs, dif_pos h]
theorem digs_step {n : Nat} (h : 10 ≤ n) : digs n = digs (n / 10) + 1 := by rw [digs, dif_neg (by omega)]
theorem digs_pos (n : Nat) : 1 ≤ digs n := by
  rw [digs]; split <;> omega
theorem digs_le : ∀ (k n : Nat), 1 ≤ k → n < 10 ^ k → digs n ≤ k
  | 0, _, h, _ => by omega
  | k + 1, n, _, h => by
    by_cases hn : n < 10
    · rw [digs_small hn]; omega
    · rw [digs_step (by omega)]
      have hk : 1 ≤ k := by
        rcases k with _ | k
        · simp at h; omega
        · omega
      have := digs_le k (n / 10) hk (by rw [Nat.pow_succ] at h; omega)
      omega

def numRight (m e : Int) : Bool :=
  if m = 0 then decide (e = 0) else
    !(decide (1000000000000000 ≤ m.natAbs) || decide (m.natAbs % 10 = 0) || decide (e < -40) || decide (40 ≤ e)) && decide ((digs m.natAbs : Int) + e ≤ 40)

set_option maxHeartbeats 400000 in
theorem size_any (m : Int) (h : i64 m) (w : World) : Calls Tryz.prog 95 #[.int .i64 m] w fun e w' => e = .returned (.int .u64 m.natAbs) ∧ w = w' := by
  by_cases h0 : m < 0
  · go_enter Tryz.func95, Tryz.ntmps95
    go_wp2
    go_ret
    refine ⟨?_, rfl⟩
    have hw : IntKind.u64.wrap (-IntKind.u64.wrap m) = m.natAbs := by
      obtain ⟨h1, h2⟩ := h
      rw [IntKind.wrap_u64, IntKind.wrap_u64]; omega
    show Ending.returned (.int .u64 (IntKind.u64.wrap (-IntKind.u64.wrap m))) = _
    rw [hw]
  · go_enter Tryz.func95, Tryz.ntmps95
    go_wp2
    go_ret
    refine ⟨?_, rfl⟩
    have hw : (m.natAbs : Int) = m := by omega
    rw [hw]; rfl

set_option maxHeartbeats 400000 in
theorem count_any (n : Nat) (h : n < 18446744073709551616) (w : World) : Calls Tryz.prog 96 #[.int .u64 n] w fun e w' => e = .returned (.int .i64 (digs n)) ∧ w = w' := by
  have hd : digs n ≤ 20 := digs_le 20 n (by omega) (by omega)
  go_enter Tryz.func96, Tryz.ntmps96
  go_wp2
  go_loop [0, 3] (fun a c => ∃ k d : Nat, a = .int .u64 k ∧ c = .int .i64 d ∧ k < 18446744073709551616 ∧ 1 ≤ d ∧ Hid (digs k + d = digs n + 1)) (fun a _ => (intOf a).toNat)
  case atStart => exact ⟨n, 1, rfl, rfl, h, Nat.le_refl _, rfl⟩
  case round =>
    obtain ⟨k, d, rfl, rfl, hk, hd1, hdd⟩ := hrel
    have hdl : d ≤ 20 := by have := digs_pos k; have := hdd.out; omega
    by_cases hk10 : k < 10
    · go_wp2
      go_ret
      refine ⟨?_, rfl⟩
      have := hdd.out
      rw [digs_small hk10] at this
      have : d = digs n := by omega
      rw [← this]; rfl
    · go_wp2
      refine ⟨⟨k / 10, d + 1, by rw [Int.natCast_ediv]; rfl, rfl, by omega, by omega, ?_⟩, ?_⟩
      · have := hdd.out
        rw [digs_step (by omega)] at this
        show digs (k / 10) + (d + 1) = digs n + 1
        omega
      · simp only [intOf]; omega

set_option maxRecDepth 100000 in
set_option maxHeartbeats 2000000 in
theorem numRight_any (m x : Int) (hm : i64 m) (hx : i64 x) (w : World) : Calls Tryz.prog 70 #[.agg #[.int .i64 m, .int .i64 x]] w fun e w' => e = .returned (.bool (numRight m x)) ∧ Below w.heap.size w w' := by
  have hb0 : ∀ n, Below w.heap.size w ((w.alloc (.cells #[.int .i64 m, .int .i64 x] 24)).drewN n) := fun n => below_drewN ((Below.refl _ w).alloc (Nat.le_refl _) _) n
  have HB := Lib.hid hb0
  obtain ⟨K, D, hK0, hK1, hD1, hD2, hKm, hS, hC, hspec⟩ : ∃ K D : Int, 0 ≤ K ∧ K < 18446744073709551616 ∧ 1 ≤ D ∧ (D ≤ 20) ∧ (m = 0 ↔ K = 0) ∧
      (∀ w, Calls Tryz.prog 95 #[.int .i64 m] w fun e w' => e = .returned (.int .u64 K) ∧ w = w') ∧
      (∀ w, Calls Tryz.prog 96 #[.int .u64 K] w fun e w' => e = .returned (.int .i64 D) ∧ w = w') ∧
      numRight m x = if m = 0 then decide (x = 0) else !(decide (1000000000000000 ≤ K) || decide (K.tmod 10 = 0) || decide (x < -40) || decide (40 ≤ x)) && decide (D + x ≤ 40) := by
    have hk1 : m.natAbs < 18446744073709551616 := by obtain ⟨h1, h2⟩ := hm; omega
    refine ⟨m.natAbs, digs m.natAbs, by omega, by omega, by have := digs_pos m.natAbs; omega, by have := digs_le 20 m.natAbs (by omega) (by omega); omega, by omega, fun w => size_any m hm w, fun w => count_any _ hk1 w, ?_⟩
    unfold numRight
    have e1 : decide (1000000000000000 ≤ m.natAbs) = decide ((1000000000000000 : Int) ≤ (m.natAbs : Int)) := decide_eq_decide.2 (by omega)
    have e2 : decide (m.natAbs % 10 = 0) = decide ((m.natAbs : Int).tmod 10 = 0) := decide_eq_decide.2 (by rw [Int.tmod_eq_emod_of_nonneg (by omega)]; omega)
    rw [e1, e2]
  rw [hspec]
  have HS := Lib.hid hS
  have HC := Lib.hid hC
  have hx1 := hx.1
  have hx2 := hx.2
  clear hx hm hb0 hS hC hspec
  by_cases h0 : m = 0
  · subst h0
    clear hKm
    by_cases hx0 : x = 0
    · subst hx0
      go_enter Tryz.func70, Tryz.ntmps70
      go_wp2
      go_ret
      exact ⟨rfl, HB.out 0⟩
    · have hx0' : decide (x = 0) = false := decide_eq_false hx0
      have hx0'' : (x == 0) = false := beq_eq_false_iff_ne.2 hx0
      rw [if_pos rfl, hx0']
      go_enter Tryz.func70, Tryz.ntmps70
      go_wp2
      go_ret
      exact ⟨rfl, HB.out 0⟩
  · rw [if_neg h0]
    clear hKm
    obtain ⟨r, hr⟩ : ∃ r, K.tmod 10 = r := ⟨_, rfl⟩
    rw [hr]
    by_cases h1 : 1000000000000000 ≤ K
    · rw [decide_eq_true h1]
      go_enter Tryz.func70, Tryz.ntmps70
      go_wp2_with (go_at_call 95; refine (HS.out _).mono ?_; rintro e w' ⟨rfl, rfl⟩)
      go_ret
      exact ⟨by simp, HB.out 0⟩
    rw [decide_eq_false h1]
    by_cases h2 : r = 0
    · rw [decide_eq_true h2]
      subst h2
      go_enter Tryz.func70, Tryz.ntmps70
      go_wp2_with (go_at_call 95; refine (HS.out _).mono ?_; rintro e w' ⟨rfl, rfl⟩)
      go_ret
      exact ⟨by simp, HB.out 0⟩
    rw [decide_eq_false h2]
    have h2' : (r == 0) = false := beq_eq_false_iff_ne.2 h2
    by_cases h3 : x < -40
    · rw [decide_eq_true h3]
      go_enter Tryz.func70, Tryz.ntmps70
      go_wp2_with (go_at_call 95; refine (HS.out _).mono ?_; rintro e w' ⟨rfl, rfl⟩)
      go_ret
      exact ⟨by simp, HB.out 0⟩
    rw [decide_eq_false h3]
    by_cases h4 : 40 ≤ x
    · rw [decide_eq_true h4]
      go_enter Tryz.func70, Tryz.ntmps70
      go_wp2_with (go_at_call 95; refine (HS.out _).mono ?_; rintro e w' ⟨rfl, rfl⟩)
      go_ret
      exact ⟨by simp, HB.out 0⟩
    rw [decide_eq_false h4]
    go_enter Tryz.func70, Tryz.ntmps70
    go_wp2_with (go_at_call 95; refine (HS.out _).mono ?_; rintro e w' ⟨rfl, rfl⟩)
    go_quiet (exact Calls.quiet_of_same ((HC.out _).mono (fun _ _ h => ⟨h.1, h.2.symm⟩)))
    go_wp2
    go_ret
    refine ⟨?_, HB.out _⟩
    simp
end Go.Proofs.YtbiacjkkgddclaaGreat
namespace Go.Proofs.YtbiacjkkgddclaaGreat
open Go.RowKit Go.Shelf

def noBytes : ByteArray := ByteArray.mk #[]
def Vl.arr (v : Vl) : Array Value := #[.int .i64 v.k, .int .i64 v.mant, .int .i64 v.exp, .string v.text, .bool v.truth, .int .i64 v.fault]
def ofV (m x : Int) : Vl := ⟨1, m, x, noBytes, false, 0⟩
def badV (f : Int) : Vl := ⟨4, 0, 0, noBytes, false, if f < 1 ∨ 9 < f then 9 else f⟩
def textV (s : ByteArray) : Vl := if 255 < s.size then badV 2 else ⟨2, 0, 0, s, false, 0⟩
def truthV (b : Bool) : Vl := ⟨3, 0, 0, noBytes, b, 0⟩
def zeroV : Vl := ⟨0, 0, 0, noBytes, false, 0⟩
def valRight (v : Vl) : Bool :=
  if v.k = 0 then decide (v = zeroV) else if v.k = 1 then numRight v.mant v.exp && decide (v = ofV v.mant v.exp)
  else if v.k = 2 then decide (v = textV v.text) else if v.k = 3 then decide (v = truthV v.truth) else if v.k = 4 then decide (v = badV v.fault) else false

theorem undV : Tryz.prog.underlying 26 = some (.struct (Tryz.prog.fieldsOf 26)) := by kernel_rfl
theorem infV : (Tryz.prog.info? 26).map (·.size) = some 6 := by kernel_rfl
theorem heap_new1 (w : World) (o o' : Obj) : ((w.alloc o).alloc o').heap[w.heap.size + 1]? = some o' := by
  have := World.alloc_heap_new (w.alloc o) o'
  rwa [World.size_alloc] at this
theorem heap_setRow_same {w : World} {g : Nat} {cs cs' : Array Value} {t : TypeId} {fr : Nat × Nat} (h : w.heap[g]? = some (.cells cs t fr)) : (w.setRow g cs').heap[g]? = some (.cells cs' t fr) := by
  obtain ⟨hlt, hk⟩ := Array.getElem?_eq_some_iff.1 h
  show (w.heap.modify g _)[g]? = _
  rw [Array.getElem?_eq_getElem (by rw [Array.size_modify]; exact hlt), Array.getElem_modify_self, hk]
theorem heap_setRow_other (w : World) (g : Nat) (cs : Array Value) (k : Nat) (h : k ≠ g) : (w.setRow g cs).heap[k]? = w.heap[k]? := by
  show (w.heap.modify g _)[k]? = _
  rw [Array.getElem?_modify, if_neg (by omega)]
theorem below_setRow {B : Nat} {a w : World} (h : Below B a w) {g : Nat} (cs : Array Value) (hg : B ≤ g) : Below B a (w.setRow g cs) :=
  ⟨h.os, h.tape, h.output, by rw [size_setRow]; exact h.size, fun k hk => (heap_setRow_other w g cs k (by omega)).trans (h.block k hk)⟩
set_option maxRecDepth 100000 in
set_option maxHeartbeats 400000 in
theorem of_any (m x : Int) (w : World) : Calls Tryz.prog 71 #[.agg #[.int .i64 m, .int .i64 x]] w fun e w' => e = .returned (.agg (ofV m x).arr) ∧ Below w.heap.size w w' := by
  go_enter Tryz.func71, Tryz.ntmps71
  go_wp2
  refine bodyPost_ret (results_cell_row rfl _ _ (w.heap.size + 1) 26 (ofV m x).arr (0, 0) _ rfl (heap_new1 w _ _) undV rfl infV) rfl ?_
  exact ⟨rfl, ((Below.refl _ w).alloc (Nat.le_refl _) _).alloc (by simp) _⟩
set_option maxRecDepth 100000 in
set_option maxHeartbeats 400000 in
theorem truth_any (b : Bool) (w : World) : Calls Tryz.prog 73 #[.bool b] w fun e w' => e = .returned (.agg (truthV b).arr) ∧ Below w.heap.size w w' := by
  go_enter Tryz.func73, Tryz.ntmps73
  go_wp2
  refine bodyPost_ret (results_cell_row rfl _ _ w.heap.size 26 (truthV b).arr (0, 0) _ rfl (World.alloc_heap_new w _) undV rfl infV) rfl ?_
  exact ⟨rfl, (Below.refl _ w).alloc (Nat.le_refl _) _⟩
set_option maxRecDepth 100000 in
set_option maxHeartbeats 400000 in
theorem bad_any (f : Int) (w : World) : Calls Tryz.prog 74 #[.int .i64 f] w fun e w' => e = .returned (.agg (badV f).arr) ∧ Below w.heap.size w w' := by
  obtain ⟨g, hg⟩ : ∃ g, g = if f < 1 ∨ 9 < f then 9 else f := ⟨_, rfl⟩
  have hv : (badV f).arr = #[.int .i64 4, .int .i64 0, .int .i64 0, .string noBytes, .bool false, .int .i64 g] := by rw [hg]; rfl
  rw [hv]
  have HG := Lib.hid hg
  clear hv hg
  by_cases h1 : f < 1 <;> by_cases h2 : 9 < f <;> try omega
  all_goals
    go_enter Tryz.func74, Tryz.ntmps74
    go_wp2
    have hg := HG.out
    first | rw [if_pos (by omega)] at hg | rw [if_neg (by omega)] at hg
    subst hg
    refine bodyPost_ret (results_cell_row rfl _ _ w.heap.size 26 #[.int .i64 4, .int .i64 0, .int .i64 0, .string noBytes, .bool false, .int .i64 _] (0, 0) _ rfl (World.alloc_heap_new w _) undV rfl infV) rfl ?_
    exact ⟨rfl, (Below.refl _ w).alloc (Nat.le_refl _) _⟩
set_option maxRecDepth 100000 in
set_option maxHeartbeats 400000 in
theorem text_any (s : ByteArray) (hs : s.size ≤ 9223372036854775807) (w : World) : Calls Tryz.prog 72 #[.string s] w fun e w' => e = .returned (.agg (textV s).arr) ∧ Below w.heap.size w w' := by
  unfold textV
  by_cases h : 255 < s.size
  · rw [if_pos h]
    have HB := Lib.hid (fun w => bad_any 2 w)
    go_enter Tryz.func72, Tryz.ntmps72
    go_wp2_with (go_at_call 74; refine (HB.out _).mono ?_; rintro e w' ⟨rfl, hbe⟩)
    have hblk : w'.heap[w.heap.size]? = some (.cells zeroV.arr 26) := (hbe.block w.heap.size (by simp)).trans (World.alloc_heap_new w _)
    have hst : (storeCells ⟨w.heap.size, 0, none⟩ (badV 2).arr.toList).run Tryz.prog w' = .ok () (w'.setRow w.heap.size (badV 2).arr) := run_storeCells_at Tryz.prog w.heap.size 0 26 (badV 2).arr.toList 0 zeroV.arr w' hblk (by decide) (by decide)
    rw [hst]
    have hs2 : (w'.setRow w.heap.size (badV 2).arr).heap[w.heap.size]? = some (.cells (badV 2).arr 26) := heap_setRow_same hblk
    have hb2 : Below w.heap.size w (w'.setRow w.heap.size (badV 2).arr) := below_setRow (((Below.refl _ w).alloc (Nat.le_refl _) _).trans (hbe.mono (by simp))) _ (Nat.le_refl _)
    have HS2 := Lib.hid hs2
    have HB2 := Lib.hid hb2
    clear hs2 hb2 hst hblk hbe
    go_wp2
    refine bodyPost_ret (results_cell_row rfl _ _ w.heap.size 26 _ (0, 0) _ rfl HS2.out undV rfl infV) rfl ?_
    exact ⟨rfl, HB2.out⟩
  · rw [if_neg h]
    go_enter Tryz.func72, Tryz.ntmps72
    go_wp2
    refine bodyPost_ret (results_cell_row rfl _ _ w.heap.size 26 _ (0, 0) _ rfl (World.alloc_heap_new w _) undV rfl infV) rfl ?_
    exact ⟨rfl, (Below.refl _ w).alloc (Nat.le_refl _) _⟩
end Go.Proofs.YtbiacjkkgddclaaGreat
namespace Go.Proofs.YtbiacjkkgddclaaGreat
open Go.RowKit Go.Shelf
attribute [local go_sem ↓] Go.wp_at_zero Go.wp_at_succ

/-- six cells of one block. -/
def Six (b : Nat) (k m x : Int) (s : ByteArray) (t : Bool) (f : Int) (w : World) : Prop :=
  w.cell? ⟨b, 0, none⟩ = some (.int .i64 k) ∧ w.cell? ⟨b, 1, none⟩ = some (.int .i64 m) ∧ w.cell? ⟨b, 2, none⟩ = some (.int .i64 x) ∧ w.cell? ⟨b, 3, none⟩ = some (.string s) ∧ w.cell? ⟨b, 4, none⟩ = some (.bool t) ∧ w.cell? ⟨b, 5, none⟩ = some (.int .i64 f)
theorem keep6 {b B : Nat} {k m x f : Int} {s : ByteArray} {t : Bool} {w0 w w' : World}
    (h : (w.cell? ⟨b, 0, none⟩ = some (.int .i64 k) ∧ w.cell? ⟨b, 1, none⟩ = some (.int .i64 m) ∧ w.cell? ⟨b, 2, none⟩ = some (.int .i64 x) ∧ w.cell? ⟨b, 3, none⟩ = some (.string s) ∧ w.cell? ⟨b, 4, none⟩ = some (.bool t) ∧ w.cell? ⟨b, 5, none⟩ = some (.int .i64 f)) ∧ Below B w0 w)
    (hbw : Below w.heap.size w w') (hB : B ≤ w0.heap.size) :
    (w'.cell? ⟨b, 0, none⟩ = some (.int .i64 k) ∧ w'.cell? ⟨b, 1, none⟩ = some (.int .i64 m) ∧ w'.cell? ⟨b, 2, none⟩ = some (.int .i64 x) ∧ w'.cell? ⟨b, 3, none⟩ = some (.string s) ∧ w'.cell? ⟨b, 4, none⟩ = some (.bool t) ∧ w'.cell? ⟨b, 5, none⟩ = some (.int .i64 f)) ∧ Below B w0 w' := by
  obtain ⟨⟨h0, h1, h2, h3, h4, h5⟩, hb⟩ := h
  have hlt : b < w.heap.size := World.block_lt_of_cell? w _ h0
  exact ⟨⟨(hbw.cell (p := ⟨b, 0, none⟩) hlt).trans h0, (hbw.cell (p := ⟨b, 1, none⟩) hlt).trans h1, (hbw.cell (p := ⟨b, 2, none⟩) hlt).trans h2, (hbw.cell (p := ⟨b, 3, none⟩) hlt).trans h3, (hbw.cell (p := ⟨b, 4, none⟩) hlt).trans h4, (hbw.cell (p := ⟨b, 5, none⟩) hlt).trans h5⟩, hb.trans (hbw.mono (Nat.le_trans hB hb.size))⟩

set_option maxRecDepth 100000 in
set_option maxHeartbeats 2000000 in
theorem valRight2 (mant exp fault : Int) (text : ByteArray) (truth : Bool) (_ : i64 mant) (_ : i64 exp) (hs : text.size ≤ 9223372036854775807) (w : World) :
    Calls Tryz.prog 55 #[.agg #[.int .i64 2, .int .i64 mant, .int .i64 exp, .string text, .bool truth, .int .i64 fault]] w fun e w' => e = .returned (.bool (decide ((⟨2, mant, exp, text, truth, fault⟩ : Vl) = textV text))) ∧ Below w.heap.size w w' := by
  obtain ⟨q, hq⟩ : ∃ q, decide ((⟨2, mant, exp, text, truth, fault⟩ : Vl) = textV text) = q := ⟨_, rfl⟩
  have hE := fun w => eqV w ⟨2, mant, exp, text, truth, fault⟩ (textV text)
  obtain ⟨u, hu⟩ : ∃ u, u = textV text := ⟨_, rfl⟩
  have hC := fun w => text_any text hs w
  rw [hq, ← hu] at hE
  rw [← hu] at hC
  rw [hq]
  simp only [Vl.arr] at hC
  obtain ⟨uk, um, ue, ut, ub, uf⟩ := u
  dsimp only at hC hE
  have HC := Lib.hid hC
  clear hC hu hq hs
  have hb0 : Below w.heap.size w (w.alloc (.cells #[.int .i64 2, .int .i64 mant, .int .i64 exp, .string text, .bool truth, .int .i64 fault] 26)).drew := ((Below.refl _ w).alloc (Nat.le_refl _) _).drew
  go_enter Tryz.func55, Tryz.ntmps55
  go_wp2
  go_region_held3 (fun w' => (w'.cell? ⟨w.heap.size, 0, none⟩ = some (.int .i64 2) ∧ w'.cell? ⟨w.heap.size, 1, none⟩ = some (.int .i64 mant) ∧ w'.cell? ⟨w.heap.size, 2, none⟩ = some (.int .i64 exp) ∧ w'.cell? ⟨w.heap.size, 3, none⟩ = some (.string text) ∧ w'.cell? ⟨w.heap.size, 4, none⟩ = some (.bool truth) ∧ w'.cell? ⟨w.heap.size, 5, none⟩ = some (.int .i64 fault)) ∧ Below w.heap.size w w') (first | exact keep6 (by assumption) (by assumption) (Nat.le_refl _) | go_keep)
    ((go_at_call 72; refine (HC.out _).mono ?_; rintro e w2 ⟨rfl, hbe⟩))
  all_goals
    go_wp2
    go_ret
    refine ⟨rfl, ?_⟩
    first
      | assumption
      | (rename_i hS; exact hS.2)

set_option maxRecDepth 100000 in
set_option maxHeartbeats 2000000 in
theorem valRight3 (mant exp fault : Int) (text : ByteArray) (truth : Bool) (_ : i64 mant) (_ : i64 exp) (_ : text.size ≤ 9223372036854775807) (w : World) :
    Calls Tryz.prog 55 #[.agg #[.int .i64 3, .int .i64 mant, .int .i64 exp, .string text, .bool truth, .int .i64 fault]] w fun e w' => e = .returned (.bool (decide ((⟨3, mant, exp, text, truth, fault⟩ : Vl) = truthV truth))) ∧ Below w.heap.size w w' := by
  obtain ⟨q, hq⟩ : ∃ q, decide ((⟨3, mant, exp, text, truth, fault⟩ : Vl) = truthV truth) = q := ⟨_, rfl⟩
  have hE := fun w => eqV w ⟨3, mant, exp, text, truth, fault⟩ (truthV truth)
  obtain ⟨u, hu⟩ : ∃ u, u = truthV truth := ⟨_, rfl⟩
  have hC := fun w => truth_any truth w
  rw [hq, ← hu] at hE
  rw [← hu] at hC
  rw [hq]
  simp only [Vl.arr] at hC
  obtain ⟨uk, um, ue, ut, ub, uf⟩ := u
  dsimp only at hC hE
  have HC := Lib.hid hC
  clear hC hu hq
  have hb0 : Below w.heap.size w (w.alloc (.cells #[.int .i64 3, .int .i64 mant, .int .i64 exp, .string text, .bool truth, .int .i64 fault] 26)).drew := ((Below.refl _ w).alloc (Nat.le_refl _) _).drew
  go_enter Tryz.func55, Tryz.ntmps55
  go_wp2
  go_region_held3 (fun w' => (w'.cell? ⟨w.heap.size, 0, none⟩ = some (.int .i64 3) ∧ w'.cell? ⟨w.heap.size, 1, none⟩ = some (.int .i64 mant) ∧ w'.cell? ⟨w.heap.size, 2, none⟩ = some (.int .i64 exp) ∧ w'.cell? ⟨w.heap.size, 3, none⟩ = some (.string text) ∧ w'.cell? ⟨w.heap.size, 4, none⟩ = some (.bool truth) ∧ w'.cell? ⟨w.heap.size, 5, none⟩ = some (.int .i64 fault)) ∧ Below w.heap.size w w') (first | exact keep6 (by assumption) (by assumption) (Nat.le_refl _) | go_keep)
    ((go_at_call 73; refine (HC.out _).mono ?_; rintro e w2 ⟨rfl, hbe⟩))
  all_goals
    go_wp2
    go_ret
    refine ⟨rfl, ?_⟩
    first
      | assumption
      | (rename_i hS; exact hS.2)

set_option maxRecDepth 100000 in
set_option maxHeartbeats 2000000 in
theorem valRight4 (mant exp fault : Int) (text : ByteArray) (truth : Bool) (_ : i64 mant) (_ : i64 exp) (_ : text.size ≤ 9223372036854775807) (w : World) :
    Calls Tryz.prog 55 #[.agg #[.int .i64 4, .int .i64 mant, .int .i64 exp, .string text, .bool truth, .int .i64 fault]] w fun e w' => e = .returned (.bool (decide ((⟨4, mant, exp, text, truth, fault⟩ : Vl) = badV fault))) ∧ Below w.heap.size w w' := by
  obtain ⟨q, hq⟩ : ∃ q, decide ((⟨4, mant, exp, text, truth, fault⟩ : Vl) = badV fault) = q := ⟨_, rfl⟩
  have hE := fun w => eqV w ⟨4, mant, exp, text, truth, fault⟩ (badV fault)
  obtain ⟨u, hu⟩ : ∃ u, u = badV fault := ⟨_, rfl⟩
  have hC := fun w => bad_any fault w
  rw [hq, ← hu] at hE
  rw [← hu] at hC
  rw [hq]
  simp only [Vl.arr] at hC
  obtain ⟨uk, um, ue, ut, ub, uf⟩ := u
  dsimp only at hC hE
  have HC := Lib.hid hC
  clear hC hu hq
  have hb0 : Below w.heap.size w (w.alloc (.cells #[.int .i64 4, .int .i64 mant, .int .i64 exp, .string text, .bool truth, .int .i64 fault] 26)).drew := ((Below.refl _ w).alloc (Nat.le_refl _) _).drew
  go_enter Tryz.func55, Tryz.ntmps55
  go_wp2
  go_region_held3 (fun w' => (w'.cell? ⟨w.heap.size, 0, none⟩ = some (.int .i64 4) ∧ w'.cell? ⟨w.heap.size, 1, none⟩ = some (.int .i64 mant) ∧ w'.cell? ⟨w.heap.size, 2, none⟩ = some (.int .i64 exp) ∧ w'.cell? ⟨w.heap.size, 3, none⟩ = some (.string text) ∧ w'.cell? ⟨w.heap.size, 4, none⟩ = some (.bool truth) ∧ w'.cell? ⟨w.heap.size, 5, none⟩ = some (.int .i64 fault)) ∧ Below w.heap.size w w') (first | exact keep6 (by assumption) (by assumption) (Nat.le_refl _) | go_keep)
    ((go_at_call 74; refine (HC.out _).mono ?_; rintro e w2 ⟨rfl, hbe⟩))
  all_goals
    go_wp2
    go_ret
    refine ⟨rfl, ?_⟩
    first
      | assumption
      | (rename_i hS; exact hS.2)

set_option maxRecDepth 100000 in
set_option maxHeartbeats 2000000 in
theorem valRight1 (mant exp fault : Int) (text : ByteArray) (truth : Bool) (hm : i64 mant) (hx : i64 exp) (w : World) :
    Calls Tryz.prog 55 #[.agg #[.int .i64 1, .int .i64 mant, .int .i64 exp, .string text, .bool truth, .int .i64 fault]] w fun e w' => e = .returned (.bool (numRight mant exp && decide ((⟨1, mant, exp, text, truth, fault⟩ : Vl) = ofV mant exp))) ∧ Below w.heap.size w w' := by
  obtain ⟨q, hq⟩ : ∃ q, decide ((⟨1, mant, exp, text, truth, fault⟩ : Vl) = ofV mant exp) = q := ⟨_, rfl⟩
  have hE := fun w => eqV w ⟨1, mant, exp, text, truth, fault⟩ (ofV mant exp)
  obtain ⟨u, hu⟩ : ∃ u, u = ofV mant exp := ⟨_, rfl⟩
  have hC := fun w => of_any mant exp w
  rw [hq, ← hu] at hE
  rw [← hu] at hC
  rw [hq]
  simp only [Vl.arr] at hC
  obtain ⟨uk, um, ue, ut, ub, uf⟩ := u
  dsimp only at hC hE
  have HC := Lib.hid hC
  have hN := fun w => numRight_any mant exp hm hx w
  have hb0 : Below w.heap.size w (w.alloc (.cells #[.int .i64 1, .int .i64 mant, .int .i64 exp, .string text, .bool truth, .int .i64 fault] 26)).drew := ((Below.refl _ w).alloc (Nat.le_refl _) _).drew
  clear hC hu hq hm hx
  cases hnr : numRight mant exp
  · rw [hnr] at hN
    have HN := Lib.hid hN
    clear hN hnr
    go_enter Tryz.func55, Tryz.ntmps55
    go_wp2
    first
      | (go_region_with (go_at_call 70; refine (HN.out _).mono ?_; rintro e w2 ⟨rfl, hbe⟩))
      | fail
    all_goals
      go_wp2
      go_ret
      exact ⟨rfl, hb0.trans (hbe.mono (by simp))⟩
  · rw [hnr] at hN
    have HN := Lib.hid hN
    clear hN hnr
    go_enter Tryz.func55, Tryz.ntmps55
    go_wp2
    go_region_held3 (fun w' => (w'.cell? ⟨w.heap.size, 0, none⟩ = some (.int .i64 1) ∧ w'.cell? ⟨w.heap.size, 1, none⟩ = some (.int .i64 mant) ∧ w'.cell? ⟨w.heap.size, 2, none⟩ = some (.int .i64 exp) ∧ w'.cell? ⟨w.heap.size, 3, none⟩ = some (.string text) ∧ w'.cell? ⟨w.heap.size, 4, none⟩ = some (.bool truth) ∧ w'.cell? ⟨w.heap.size, 5, none⟩ = some (.int .i64 fault)) ∧ Below w.heap.size w w') (first | exact keep6 (by assumption) (by assumption) (Nat.le_refl _) | go_keep)
      (first | (go_at_call 70; refine (HN.out _).mono ?_; rintro e w2 ⟨rfl, hbe⟩) | (go_at_call 71; refine (HC.out _).mono ?_; rintro e w3 ⟨rfl, hbe2⟩))
    all_goals
      go_wp2
      go_ret
      refine ⟨by first | rfl | simp, ?_⟩
      first
        | assumption
        | (rename_i hS; exact hS.2)

set_option maxRecDepth 100000 in
set_option maxHeartbeats 2000000 in
theorem valRight0 (mant exp fault : Int) (text : ByteArray) (truth : Bool) (w : World) :
    Calls Tryz.prog 55 #[.agg #[.int .i64 0, .int .i64 mant, .int .i64 exp, .string text, .bool truth, .int .i64 fault]] w fun e w' => e = .returned (.bool (decide ((⟨0, mant, exp, text, truth, fault⟩ : Vl) = zeroV))) ∧ Below w.heap.size w w' := by
  obtain ⟨q, hq⟩ : ∃ q, decide ((⟨0, mant, exp, text, truth, fault⟩ : Vl) = zeroV) = q := ⟨_, rfl⟩
  have hE := fun w => eqV w ⟨0, mant, exp, text, truth, fault⟩ zeroV
  rw [hq] at hE
  rw [hq]
  dsimp only [zeroV, noBytes] at hE
  clear hq
  go_enter Tryz.func55, Tryz.ntmps55
  go_wp2
  go_ret
  exact ⟨rfl, (Below.refl _ w).alloc (Nat.le_refl _) _⟩

set_option maxRecDepth 100000 in
set_option maxHeartbeats 2000000 in
theorem valRight5 (k mant exp fault : Int) (text : ByteArray) (truth : Bool) (h0 : ¬ k = 0) (h1 : ¬ k = 1) (h2 : ¬ k = 2) (h3 : ¬ k = 3) (h4 : ¬ k = 4) (w : World) :
    Calls Tryz.prog 55 #[.agg #[.int .i64 k, .int .i64 mant, .int .i64 exp, .string text, .bool truth, .int .i64 fault]] w fun e w' => e = .returned (.bool false) ∧ Below w.heap.size w w' := by
  go_enter Tryz.func55, Tryz.ntmps55
  go_wp2
  go_ret
  exact ⟨rfl, (Below.refl _ w).alloc (Nat.le_refl _) _⟩

/-- value.Right. -/
theorem valRight_any (v : Vl) (hv : v.ok) (w : World) : Calls Tryz.prog 55 #[.agg v.arr] w fun e w' => e = .returned (.bool (valRight v)) ∧ Below w.heap.size w w' := by
  obtain ⟨k, mant, exp, text, truth, fault⟩ := v
  obtain ⟨_, hm, hx, hs, _⟩ := hv
  unfold valRight
  dsimp only [Vl.arr]
  by_cases h0 : k = 0
  · subst h0; exact valRight0 mant exp fault text truth w
  rw [if_neg h0]
  by_cases h1 : k = 1
  · subst h1; exact valRight1 mant exp fault text truth hm hx w
  rw [if_neg h1]
  by_cases h2 : k = 2
  · subst h2; exact valRight2 mant exp fault text truth hm hx hs w
  rw [if_neg h2]
  by_cases h3 : k = 3
  · subst h3; exact valRight3 mant exp fault text truth hm hx hs w
  rw [if_neg h3]
  by_cases h4 : k = 4
  · subst h4; exact valRight4 mant exp fault text truth hm hx hs w
  rw [if_neg h4]
  exact valRight5 k mant exp fault text truth h0 h1 h2 h3 h4 w
end Go.Proofs.YtbiacjkkgddclaaGreat
