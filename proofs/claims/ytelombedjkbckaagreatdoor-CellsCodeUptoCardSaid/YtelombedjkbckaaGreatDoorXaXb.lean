/- Contents of cells as plain data; value.Same, cells.Same, the reference's Same. cells.Right. -/
import Derived.Test.YtelombedjkbckaaGreatDoorSrSqSt
import Derived.Test.YtelombedjkbckaaGreatDoorRiCk
import Derived.Test.YtelombedjkbckaaGreatDoorNmVrVsRl
namespace Go.Proofs.YtelombedjkbckaaGreatDoor
open Go Go.RowKit Go.Shelf

/-- a content. -/
structure Ct where
  k : Int
  v : Vl
  t : Tr
def Ct.head (x : Ct) : List Value := .int .i64 x.k :: x.v.cells
/-- the 29 cells of a content. -/
def contA (x : Ct) (A : Option Addr) (c : Nat) : Array Value := (x.head ++ (nodeA x.t.d A x.t.l.length c).toList).toArray
abbrev contV (x : Ct) (A : Option Addr) (c : Nat) : Value := .agg (contA x A c)
theorem contA_size (x : Ct) (A : Option Addr) (c : Nat) : (contA x A c).size = 29 := rfl
def sameC (x y : Ct) : Bool := decide (x.k = y.k) && (decide (x.v = y.v) && sameB x.t y.t)
theorem sameC_self (x : Ct) : sameC x x = true := by
  have : sameB x.t x.t = true := (sameB_eq _ _).2 rfl
  simp [sameC, this]
theorem sameC_comm (x y : Ct) : sameC x y = sameC y x := by
  rw [Bool.eq_iff_iff]
  simp only [sameC, Bool.and_eq_true, decide_eq_true_eq, sameB_eq]
  constructor <;> (rintro ⟨h1, h2, h3⟩; exact ⟨h1.symm, h2.symm, h3.symm⟩)
theorem infC : (Tryz.prog.info? 43).map (·.size) = some 29 := by kernel_rfl
theorem undC : Tryz.prog.underlying 43 = some (.struct (Tryz.prog.fieldsOf 43)) := by kernel_rfl
theorem undVl : Tryz.prog.underlying 34 = some (.struct (Tryz.prog.fieldsOf 34)) := by kernel_rfl
theorem infVl (v : Vl) : (Tryz.prog.info? 34).map (·.size) = some v.cells.length := by kernel_rfl
theorem infNl (d : ND) (A : Option Addr) (n c : Nat) : (Tryz.prog.info? 41).map (·.size) = some (nodeA d A n c).toList.length := by kernel_rfl

theorem row_range_ {w : World} {g : Nat} {cs : Array Value} {t : TypeId} {fr : Nat × Nat} (h : w.heap[g]? = some (.cells cs t fr)) (o : Nat) (l : List Value) (hl : ∀ j v, l[j]? = some v → cs[o + j]? = some v) : w.rangeAt g o l := by
  intro j v hv
  simp only [World.cell?, h]
  simpa using hl j v hv
/-- what a block that holds a content has. -/
theorem cont_row {w : World} {g : Nat} {x : Ct} {A : Option Addr} {c : Nat} {t : TypeId} {fr : Nat × Nat} (h : w.heap[g]? = some (.cells (contA x A c) t fr)) : w.cell? ⟨g, 0, none⟩ = some (.int .i64 x.k) ∧ w.rangeAt g 1 x.v.cells ∧ w.rangeAt g 7 (nodeA x.t.d A x.t.l.length c).toList := by
  refine ⟨cell_of_row _ _ 0 _ _ _ h, row_range_ h _ _ (fun j v hv => ?_), row_range_ h _ _ (fun j v hv => ?_)⟩
  · have hj : j < 6 := (List.getElem?_eq_some_iff.1 hv).1
    match j, hj with
    | 0, _ => exact hv
    | 1, _ => exact hv
    | 2, _ => exact hv
    | 3, _ => exact hv
    | 4, _ => exact hv
    | 5, _ => exact hv
  · have : (contA x A c)[7 + j]? = (x.head ++ (nodeA x.t.d A x.t.l.length c).toList)[7 + j]? := by simp [contA]
    rw [this, List.getElem?_append_right (by show x.head.length ≤ 7 + j; simp [Ct.head, Vl.cells])]
    have : 7 + j - x.head.length = j := by simp [Ct.head, Vl.cells]
    rw [this]; exact hv

set_option maxRecDepth 100000 in
theorem vsame_c (v v' : Vl) (w : World) : Calls Tryz.prog 52 #[.agg v.cells.toArray, .agg v'.cells.toArray] w fun e w' => e = .returned (.bool (decide (v = v'))) ∧ Below w.heap.size w w' := by
  have hE := fun w => eqV w v v'
  obtain ⟨r, hr⟩ : ∃ r, decide (v = v') = r := ⟨_, rfl⟩
  rw [hr] at hE ⊢
  obtain ⟨k, m, x, s, b, f⟩ := v
  obtain ⟨k', m', x', s', b', f'⟩ := v'
  dsimp only [Vl.cells] at hE ⊢
  clear hr
  go_enter Tryz.func52, Tryz.ntmps52
  go_wp2
  go_ret
  exact ⟨rfl, ((Below.refl _ w).alloc (Nat.le_refl _) _).alloc (by simp) _⟩

set_option maxRecDepth 100000 in
set_option maxHeartbeats 2000000 in
theorem csame_c (x y : Ct) (w : World) (B : Nat) (A A' : Option Addr) (c c' : Nat) (hd : x.t.d.ok) (hs : SlAt w B A c x.t.l) (hd' : y.t.d.ok) (hs' : SlAt w B A' c' y.t.l) (hB : B ≤ w.heap.size) (hsz : x.t.size ≤ 1099511627776) :
    Calls Tryz.prog 30 #[contV x A c, contV y A' c'] w fun e w' => e = .returned (.bool (sameC x y)) ∧ Below w.heap.size w w' := by
  obtain ⟨W0, hW0⟩ : ∃ W0, W0 = (w.alloc (.cells (contA x A c) 43)).alloc (.cells (contA y A' c') 43) := ⟨_, rfl⟩
  have hbel : Below w.heap.size w W0 := by rw [hW0]; exact ((Below.refl _ w).alloc (Nat.le_refl _) _).alloc (by simp) _
  have hz0 : W0.heap.size = w.heap.size + 2 := by rw [hW0]; simp
  have hk0 : W0.heap[w.heap.size]? = some (.cells (contA x A c) 43) := by rw [hW0]; exact (heapOld _ _ _ (by simp)).trans (heap_alloc_new _ _)
  have hk1 : W0.heap[w.heap.size + 1]? = some (.cells (contA y A' c') 43) := by
    rw [hW0]
    have := heap_alloc_new (w.alloc (.cells (contA x A c) 43)) (.cells (contA y A' c') 43)
    rwa [World.size_alloc] at this
  have hT := fun wx (hx : Below W0.heap.size W0 wx) => tsame_c x.t y.t wx B A A' c c' hd ((hs.below (hbel.mono hB)).below (hx.mono (by omega))) hd' ((hs'.below (hbel.mono hB)).below (hx.mono (by omega))) (by have := hx.size; omega) hsz
  have hV := fun wx => vsame_c x.v y.v wx
  have hrow := fun wx (hx : Below W0.heap.size W0 wx) => cont_row ((hx.block w.heap.size (by omega)).trans hk0)
  have hrow' := fun wx (hx : Below W0.heap.size W0 wx) => cont_row ((hx.block (w.heap.size + 1) (by omega)).trans hk1)
  obtain ⟨CA, hCA⟩ : ∃ C, C = contA x A c := ⟨_, rfl⟩
  obtain ⟨CB, hCB⟩ : ∃ C, C = contA y A' c' := ⟨_, rfl⟩
  rw [contV, contV, ← hCA, ← hCB]
  rw [← hCA, ← hCB] at hW0
  have hinf := infNl x.t.d A x.t.l.length c
  have hinf' := infNl y.t.d A' y.t.l.length c'
  have hiv := infVl x.v
  have hiv' := infVl y.v
  obtain ⟨b, hb⟩ : ∃ b, b = w.heap.size := ⟨_, rfl⟩
  have e0 := (hrow W0 (Below.refl _ _)).1
  have e1 := (hrow' W0 (Below.refl _ _)).1
  have hr1 := (hrow W0 (Below.refl _ _)).2.1
  have hr1' := (hrow' W0 (Below.refl _ _)).2.1
  have hr7 := fun wx hx => (hrow wx hx).2.2
  have hr7' := fun wx hx => (hrow' wx hx).2.2
  obtain ⟨r, hr⟩ : ∃ r, sameC x y = r := ⟨_, rfl⟩
  rw [hr]
  simp only [sameC] at hr
  rw [nodeV, nodeV] at hT
  obtain ⟨N, hN⟩ : ∃ N, N = nodeA x.t.d A x.t.l.length c := ⟨_, rfl⟩
  obtain ⟨N', hN'⟩ : ∃ N, N = nodeA y.t.d A' y.t.l.length c' := ⟨_, rfl⟩
  rw [← hN, ← hN'] at hT
  rw [← hN] at hr7 hinf
  rw [← hN'] at hr7' hinf'
  clear hrow hrow' hk0 hk1 hd hs hd' hs' hCA hCB hN hN'
  obtain ⟨k, v, t⟩ := x
  obtain ⟨k', v', t'⟩ := y
  dsimp only at hT hV e0 e1 hr1 hr1' hr7 hr7' hr hinf hinf' hiv hiv'
  obtain ⟨vc, hvc⟩ : ∃ u, u = v.cells := ⟨_, rfl⟩
  obtain ⟨vc', hvc'⟩ : ∃ u, u = v'.cells := ⟨_, rfl⟩
  rw [← hvc] at hV hr1 hiv
  rw [← hvc'] at hV hr1' hiv'
  rw [← hb] at e0 e1 hr1 hr1' hr7 hr7' hz0
  have HT := Lib.hid hT
  have HV := Lib.hid hV
  have HI := Lib.hid hinf
  have HI' := Lib.hid hinf'
  have HJ := Lib.hid hiv
  have HJ' := Lib.hid hiv'
  have HR1 := Lib.hid hr1
  have HR1' := Lib.hid hr1'
  have HR7 := Lib.hid hr7
  have HR7' := Lib.hid hr7'
  have HR := Lib.hid hr
  have HW := Lib.hid hW0
  have HBL := Lib.hid hbel
  clear hT hV hinf hinf' hiv hiv' hr1 hr1' hr7 hr7' hr hW0 hvc hvc' hbel
  have HB := Lib.hid hb
  clear hb
  by_cases ek : k = k'
  case neg =>
    have q1 : (k == k') = false := by simpa using ek
    go_enter Tryz.func30, Tryz.ntmps30
    go_upto_region 1 with (fail)
    rw [← HW.out, ← HB.out]
    go_wp2
    go_ret
    exact ⟨ret_bool (by rw [← HR.out]; simp [ek]), HBL.out⟩
  subst ek
  by_cases ev : v = v'
  case neg =>
    have HV1 : ∀ wx, Calls Tryz.prog 52 #[.agg vc.toArray, .agg vc'.toArray] wx fun e w' => e = .returned (.bool false) ∧ Below wx.heap.size wx w' := fun wx => by have := HV.out wx; rwa [decide_eq_false ev] at this
    go_enter Tryz.func30, Tryz.ntmps30
    go_upto_region 1 with (fail)
    rw [← HW.out, ← HB.out]
    go_wp2_with (first | (refine wpList_mid rfl 34 _ rfl b 1 rfl vc _ HR1.out undVl rfl HJ.out ?_) | (refine wpList_mid rfl 34 _ rfl (b + 1) 1 rfl vc' _ HR1'.out undVl rfl HJ'.out ?_) | (go_at_call 52; refine (HV1 _).mono ?_; rintro e w2 ⟨rfl, hbe⟩))
    go_ret
    exact ⟨ret_bool (by rw [← HR.out]; simp [ev]), HBL.out.trans (hbe.mono HBL.out.size)⟩
  subst ev
  have HV1 : ∀ wx, Calls Tryz.prog 52 #[.agg vc.toArray, .agg vc'.toArray] wx fun e w' => e = .returned (.bool true) ∧ Below wx.heap.size wx w' := fun wx => by have := HV.out wx; rwa [decide_eq_true rfl] at this
  go_enter Tryz.func30, Tryz.ntmps30
  go_upto_region 1 with (fail)
  rw [← HW.out, ← HB.out]
  go_wp2_with (first | (refine wpList_mid rfl 34 _ rfl b 1 rfl vc _ HR1.out undVl rfl HJ.out ?_) | (refine wpList_mid rfl 34 _ rfl (b + 1) 1 rfl vc' _ HR1'.out undVl rfl HJ'.out ?_) | (refine wpList_mid rfl 41 _ rfl b 7 rfl N.toList _ (HR7.out _ hbe) undN rfl HI.out ?_; simp only [Array.toArray_toList]) | (refine wpList_mid rfl 41 _ rfl (b + 1) 7 rfl N'.toList _ (HR7'.out _ hbe) undN rfl HI'.out ?_; simp only [Array.toArray_toList]) | (go_at_call 52; refine (HV1 _).mono ?_; rintro e w2 ⟨rfl, hbe⟩) | (go_at_call 46; refine (HT.out _ hbe).mono ?_; rintro e w3 ⟨rfl, hb3⟩))
  go_ret
  exact ⟨ret_bool (by rw [← HR.out]; simp), HBL.out.trans ((hbe.trans (hb3.mono hbe.size)).mono HBL.out.size)⟩

set_option maxRecDepth 100000 in
set_option maxHeartbeats 2000000 in
theorem rcsame_c (x y : Ct) (w : World) (B : Nat) (A A' : Option Addr) (c c' : Nat) (hd : x.t.d.ok) (hs : SlAt w B A c x.t.l) (hd' : y.t.d.ok) (hs' : SlAt w B A' c' y.t.l) (hB : B ≤ w.heap.size) :
    Calls Tryz.prog 18 #[contV x A c, contV y A' c'] w fun e w' => e = .returned (.bool (sameC x y)) ∧ Below w.heap.size w w' := by
  obtain ⟨W0, hW0⟩ : ∃ W0, W0 = (w.alloc (.cells (contA x A c) 43)).alloc (.cells (contA y A' c') 43) := ⟨_, rfl⟩
  have hbel : Below w.heap.size w W0 := by rw [hW0]; exact ((Below.refl _ w).alloc (Nat.le_refl _) _).alloc (by simp) _
  have hz0 : W0.heap.size = w.heap.size + 2 := by rw [hW0]; simp
  have hk0 : W0.heap[w.heap.size]? = some (.cells (contA x A c) 43) := by rw [hW0]; exact (heapOld _ _ _ (by simp)).trans (heap_alloc_new _ _)
  have hk1 : W0.heap[w.heap.size + 1]? = some (.cells (contA y A' c') 43) := by
    rw [hW0]
    have := heap_alloc_new (w.alloc (.cells (contA x A c) 43)) (.cells (contA y A' c') 43)
    rwa [World.size_alloc] at this
  have hT := fun wx (hx : Below W0.heap.size W0 wx) => rsame_c x.t y.t wx B A A' c c' hd ((hs.below (hbel.mono hB)).below (hx.mono (by omega))) hd' ((hs'.below (hbel.mono hB)).below (hx.mono (by omega))) (by have := hx.size; omega)
  have hV : ∀ wx, (Op.equalIn 10000 34 (.agg x.v.cells.toArray) (.agg y.v.cells.toArray)).run Tryz.prog wx = .ok (decide (x.v = y.v)) wx := fun wx => eqV wx x.v y.v
  have hrow := fun wx (hx : Below W0.heap.size W0 wx) => cont_row ((hx.block w.heap.size (by omega)).trans hk0)
  have hrow' := fun wx (hx : Below W0.heap.size W0 wx) => cont_row ((hx.block (w.heap.size + 1) (by omega)).trans hk1)
  obtain ⟨CA, hCA⟩ : ∃ C, C = contA x A c := ⟨_, rfl⟩
  obtain ⟨CB, hCB⟩ : ∃ C, C = contA y A' c' := ⟨_, rfl⟩
  rw [contV, contV, ← hCA, ← hCB]
  rw [← hCA, ← hCB] at hW0
  have hinf := infNl x.t.d A x.t.l.length c
  have hinf' := infNl y.t.d A' y.t.l.length c'
  have hiv := infVl x.v
  have hiv' := infVl y.v
  obtain ⟨b, hb⟩ : ∃ b, b = w.heap.size := ⟨_, rfl⟩
  have e0 := (hrow W0 (Below.refl _ _)).1
  have e1 := (hrow' W0 (Below.refl _ _)).1
  have hr1 := (hrow W0 (Below.refl _ _)).2.1
  have hr1' := (hrow' W0 (Below.refl _ _)).2.1
  have hr7 := fun wx hx => (hrow wx hx).2.2
  have hr7' := fun wx hx => (hrow' wx hx).2.2
  obtain ⟨r, hr⟩ : ∃ r, sameC x y = r := ⟨_, rfl⟩
  rw [hr]
  simp only [sameC] at hr
  rw [nodeV, nodeV] at hT
  obtain ⟨N, hN⟩ : ∃ N, N = nodeA x.t.d A x.t.l.length c := ⟨_, rfl⟩
  obtain ⟨N', hN'⟩ : ∃ N, N = nodeA y.t.d A' y.t.l.length c' := ⟨_, rfl⟩
  rw [← hN, ← hN'] at hT
  rw [← hN] at hr7 hinf
  rw [← hN'] at hr7' hinf'
  clear hrow hrow' hk0 hk1 hd hs hd' hs' hCA hCB hN hN'
  obtain ⟨k, v, t⟩ := x
  obtain ⟨k', v', t'⟩ := y
  dsimp only at hT hV e0 e1 hr1 hr1' hr7 hr7' hr hinf hinf' hiv hiv'
  obtain ⟨vc, hvc⟩ : ∃ u, u = v.cells := ⟨_, rfl⟩
  obtain ⟨vc', hvc'⟩ : ∃ u, u = v'.cells := ⟨_, rfl⟩
  rw [← hvc] at hV hr1 hiv
  rw [← hvc'] at hV hr1' hiv'
  rw [← hb] at e0 e1 hr1 hr1' hr7 hr7' hz0
  have HT := Lib.hid hT
  have HV := Lib.hid hV
  have HI := Lib.hid hinf
  have HI' := Lib.hid hinf'
  have HJ := Lib.hid hiv
  have HJ' := Lib.hid hiv'
  have HR1 := Lib.hid hr1
  have HR1' := Lib.hid hr1'
  have HR7 := Lib.hid hr7
  have HR7' := Lib.hid hr7'
  have HR := Lib.hid hr
  have HW := Lib.hid hW0
  have HBL := Lib.hid hbel
  clear hT hV hinf hinf' hiv hiv' hr1 hr1' hr7 hr7' hr hW0 hvc hvc' hbel
  have HB := Lib.hid hb
  clear hb
  by_cases ek : k = k'
  case neg =>
    have q1 : (k == k') = false := by simpa using ek
    go_enter Tryz.func18, Tryz.ntmps18
    go_upto_region 1 with (fail)
    rw [← HW.out, ← HB.out]
    go_wp2
    go_ret
    exact ⟨ret_bool (by rw [← HR.out]; simp [ek]), HBL.out⟩
  subst ek
  by_cases ev : v = v'
  case neg =>
    have hv1 : ∀ wx, (Op.equalIn 10000 34 (.agg vc.toArray) (.agg vc'.toArray)).run Tryz.prog wx = .ok false wx := fun wx => by have := HV.out wx; rwa [decide_eq_false ev] at this
    go_enter Tryz.func18, Tryz.ntmps18
    go_upto_region 1 with (fail)
    rw [← HW.out, ← HB.out]
    go_wp2_with (first | (refine wpList_mid rfl 34 _ rfl b 1 rfl vc _ HR1.out undVl rfl HJ.out ?_) | (refine wpList_mid rfl 34 _ rfl (b + 1) 1 rfl vc' _ HR1'.out undVl rfl HJ'.out ?_))
    go_ret
    exact ⟨ret_bool (by rw [← HR.out]; simp [ev]), HBL.out⟩
  subst ev
  have hv1 : ∀ wx, (Op.equalIn 10000 34 (.agg vc.toArray) (.agg vc'.toArray)).run Tryz.prog wx = .ok true wx := fun wx => by have := HV.out wx; rwa [decide_eq_true rfl] at this
  have hb00 : Below W0.heap.size W0 W0 := Below.refl _ _
  go_enter Tryz.func18, Tryz.ntmps18
  go_upto_region 1 with (fail)
  rw [← HW.out, ← HB.out]
  go_wp2_with (first | (refine wpList_mid rfl 34 _ rfl b 1 rfl vc _ HR1.out undVl rfl HJ.out ?_) | (refine wpList_mid rfl 34 _ rfl (b + 1) 1 rfl vc' _ HR1'.out undVl rfl HJ'.out ?_) | (refine wpList_mid rfl 41 _ rfl b 7 rfl N.toList _ (HR7.out _ hb00) undN rfl HI.out ?_; simp only [Array.toArray_toList]) | (refine wpList_mid rfl 41 _ rfl (b + 1) 7 rfl N'.toList _ (HR7'.out _ hb00) undN rfl HI'.out ?_; simp only [Array.toArray_toList]) | (go_at_call 39; refine (HT.out _ hb00).mono ?_; rintro e w3 ⟨rfl, hb3⟩))
  go_ret
  exact ⟨ret_bool (by rw [← HR.out]; simp), HBL.out.trans (hb3.mono HBL.out.size)⟩
end Go.Proofs.YtelombedjkbckaaGreatDoor
namespace Go.Proofs.YtelombedjkbckaaGreatDoor
open Go Go.RowKit Go.Shelf

def zVl : Vl := ⟨0, 0, 0, ByteArray.mk #[], false, 0⟩
def zCn : Cn := ⟨0, 0, 0, 0, false, false⟩
def zNd : ND := ⟨0, zVl, ByteArray.mk #[], zCn, zCn, 0⟩
def zTr : Tr := .mk zNd []
def zCt : Ct := ⟨0, zVl, zTr⟩
theorem zNd_ok : zNd.ok := by unfold ND.ok Vl.ok Cn.ok i64; decide
/-- may a content be? -/
def rightC (x : Ct) : Bool :=
  if x.k = 0 then sameC x zCt else if x.k = 1 then sameB x.t zTr && (decide (x.v.k ≠ 0) && valRight x.v) else if x.k = 2 then decide (x.v = zVl) && decide (checkI x.t = 0) else false
theorem slAt_nil (w : World) (B : Nat) : SlAt w B none 0 [] := ⟨by simp, by omega, .inl rfl⟩

set_option maxRecDepth 100000 in
set_option maxHeartbeats 2000000 in
theorem cright_c (x : Ct) (w : World) (B : Nat) (A : Option Addr) (c : Nat) (hv : x.v.ok) (hd : x.t.d.ok) (hs : SlAt w B A c x.t.l) (hB : B ≤ w.heap.size) (hsz : x.t.size ≤ 1099511627776) :
    Calls Tryz.prog 24 #[contV x A c] w fun e w' => e = .returned (.bool (rightC x)) ∧ Below w.heap.size w w' := by
  obtain ⟨W0, hW0⟩ : ∃ W0, W0 = w.alloc (.cells (contA x A c) 43) := ⟨_, rfl⟩
  have hbel : Below w.heap.size w W0 := by rw [hW0]; exact (Below.refl _ w).alloc (Nat.le_refl _) _
  have hz0 : W0.heap.size = w.heap.size + 1 := by rw [hW0]; simp
  have hk0 : W0.heap[w.heap.size]? = some (.cells (contA x A c) 43) := by rw [hW0]; exact heap_alloc_new _ _
  have hsl : ∀ wx, Below W0.heap.size W0 wx → SlAt wx B A c x.t.l := fun wx hx => (hs.below (hbel.mono hB)).below (hx.mono (by omega))
  have hS : ∀ wx, Below W0.heap.size W0 wx → Calls Tryz.prog 30 #[.agg (contA x A c), .agg (contA zCt none 0)] wx fun e w' => e = .returned (.bool (sameC x zCt)) ∧ Below wx.heap.size wx w' := fun wx hx => csame_c x zCt wx B A none c 0 hd (hsl wx hx) zNd_ok (slAt_nil _ _) (by have := hx.size; omega) hsz
  have hT : ∀ wx, Below W0.heap.size W0 wx → Calls Tryz.prog 46 #[nodeV x.t.d A x.t.l.length c, .agg (nodeA zNd none 0 0)] wx fun e w' => e = .returned (.bool (sameB x.t zTr)) ∧ Below wx.heap.size wx w' := fun wx hx => tsame_c x.t zTr wx B A none c 0 hd (hsl wx hx) zNd_ok (slAt_nil _ _) (by have := hx.size; omega) hsz
  have hV := fun wx => valRight_any x.v hv wx
  have hC := fun wx (hx : Below W0.heap.size W0 wx) => check_c wx B (by have := hx.size; omega) x.t A c hd (hsl wx hx) hsz
  have hE : ∀ wx, (Op.equalIn 10000 34 (.agg x.v.cells.toArray) (.agg zVl.cells.toArray)).run Tryz.prog wx = .ok (decide (x.v = zVl)) wx := fun wx => eqV wx x.v zVl
  have hrow := fun wx (hx : Below W0.heap.size W0 wx) => cont_row ((hx.block w.heap.size (by omega)).trans hk0)
  obtain ⟨CA, hCA⟩ : ∃ C, C = contA x A c := ⟨_, rfl⟩
  rw [contV, ← hCA]
  rw [← hCA] at hW0 hk0 hS
  have hinf := infNl x.t.d A x.t.l.length c
  have hiv := infVl x.v
  have hic := infC
  rw [show (29 : Nat) = CA.size by rw [hCA]; rfl] at hic
  obtain ⟨b, hb⟩ : ∃ b, b = w.heap.size := ⟨_, rfl⟩
  have e0 := (hrow W0 (Below.refl _ _)).1
  have hr1 := fun wx hx => (hrow wx hx).2.1
  have hvk : ∀ wx, Below W0.heap.size W0 wx → wx.cell? ⟨w.heap.size, 1, none⟩ = some (.int .i64 x.v.k) := fun wx hx => hr1 wx hx 0 _ rfl
  have hr7 := fun wx hx => (hrow wx hx).2.2
  rw [nodeV] at hT
  obtain ⟨r, hr⟩ : ∃ r, rightC x = r := ⟨_, rfl⟩
  rw [hr]
  unfold rightC at hr
  obtain ⟨N, hN⟩ : ∃ N, N = nodeA x.t.d A x.t.l.length c := ⟨_, rfl⟩
  rw [nodeV, ← hN] at hC
  rw [← hN] at hT hr7 hinf
  clear hrow hd hs hCA hN hv hsl
  obtain ⟨k, v, t⟩ := x
  dsimp only at hT hV e0 hr1 hr7 hr hinf hiv hC hS hE hvk
  obtain ⟨vc, hvc⟩ : ∃ u, u = v.cells := ⟨_, rfl⟩
  have hva : v.arr = vc.toArray := by rw [hvc]; rfl
  rw [hva] at hV
  rw [← hvc] at hr1 hiv hE
  rw [← hb] at e0 hr1 hr7 hz0 hvk hk0
  have HT := Lib.hid hT
  have HV := Lib.hid hV
  have HS := Lib.hid hS
  have HC := Lib.hid hC
  have HI := Lib.hid hinf
  have HJ := Lib.hid hiv
  have HIC := Lib.hid hic
  have HR1 := Lib.hid hr1
  have HR7 := Lib.hid hr7
  have HR := Lib.hid hr
  have HW := Lib.hid hW0
  have HK0 := Lib.hid hk0
  have HBL := Lib.hid hbel
  have HVK := Lib.hid hvk
  clear hT hV hS hC hinf hiv hic hr1 hr7 hr hW0 hvc hva hbel hk0 hvk
  have HB := Lib.hid hb
  have hb00 : Below W0.heap.size W0 W0 := Below.refl _ _
  clear hb
  by_cases k0 : k = 0
  · subst k0
    clear hE
    have hr := HR.out
    rw [if_pos rfl] at hr
    have HS1 := Lib.hid (HS.out W0 hb00)
    rw [hr] at HS1
    clear hr
    go_enter Tryz.func24, Tryz.ntmps24
    go_upto_region 1 with (fail)
    rw [← HW.out, ← HB.out]
    go_wp2_with (first | (refine wpList_row rfl 43 _ rfl b rfl 43 CA (0, 0) _ HK0.out undC rfl HIC.out ?_) | (go_at_call 30; refine HS1.out.mono ?_; rintro e w2 ⟨rfl, hbe⟩))
    go_ret
    exact ⟨rfl, HBL.out.trans (hbe.mono HBL.out.size)⟩
  have q0 : (k == 0) = false := by simpa using k0
  by_cases k1 : k = 1
  · subst k1
    clear hE
    have hr := HR.out
    rw [if_neg (by decide), if_pos rfl] at hr
    cases ht : sameB t zTr with
    | false =>
      have HT1 := Lib.hid (HT.out W0 hb00)
      rw [ht] at hr HT1
      go_enter Tryz.func24, Tryz.ntmps24
      go_upto_region 1 with (fail)
      rw [← HW.out, ← HB.out]
      go_wp2_with (first | (refine wpList_mid rfl 41 _ rfl b 7 rfl N.toList _ (HR7.out _ hb00) undN rfl HI.out ?_; simp only [Array.toArray_toList]) | (go_at_call 46; refine HT1.out.mono ?_; rintro e w2 ⟨rfl, hbe⟩))
      go_ret
      exact ⟨ret_bool (by rw [← hr]; simp), HBL.out.trans (hbe.mono HBL.out.size)⟩
    | true =>
      have HT1 := Lib.hid (HT.out W0 hb00)
      rw [ht] at hr HT1
      by_cases vk : v.k = 0
      · have qv : (v.k != 0) = false := by simpa using vk
        rw [decide_eq_false (by simpa using vk)] at hr
        go_enter Tryz.func24, Tryz.ntmps24
        go_upto_region 1 with (fail)
        rw [← HW.out, ← HB.out]
        go_wp2_with (first | (refine wpList_mid rfl 41 _ rfl b 7 rfl N.toList _ (HR7.out _ hb00) undN rfl HI.out ?_; simp only [Array.toArray_toList]) | (go_at_call 46; refine HT1.out.mono ?_; rintro e w2 ⟨rfl, hbe⟩; have hvk2 := HVK.out _ hbe))
        go_ret
        exact ⟨ret_bool (by rw [← hr]; simp), HBL.out.trans (hbe.mono HBL.out.size)⟩
      · have qv : (v.k != 0) = true := by simpa using vk
        rw [decide_eq_true vk] at hr
        go_enter Tryz.func24, Tryz.ntmps24
        go_upto_region 1 with (fail)
        rw [← HW.out, ← HB.out]
        go_wp2_with (first | (refine wpList_mid rfl 41 _ rfl b 7 rfl N.toList _ (HR7.out _ hb00) undN rfl HI.out ?_; simp only [Array.toArray_toList]) | (go_at_call 46; refine HT1.out.mono ?_; rintro e w2 ⟨rfl, hbe⟩; have hvk2 := HVK.out _ hbe) | (refine wpList_mid rfl 34 _ rfl b 1 rfl vc _ (HR1.out _ hbe) undVl rfl HJ.out ?_) | (go_at_call 47; refine (HV.out _).mono ?_; rintro e w3 ⟨rfl, hb3⟩))
        go_ret
        exact ⟨ret_bool (by rw [← hr]; simp), HBL.out.trans ((hbe.trans (hb3.mono hbe.size)).mono HBL.out.size)⟩
  have q1 : (k == 1) = false := by simpa using k1
  by_cases k2 : k = 2
  · subst k2
    have hr := HR.out
    rw [if_neg (by decide), if_neg (by decide), if_pos rfl] at hr
    by_cases ev : v = zVl
    · have hE1 : ∀ wx, (Op.equalIn 10000 34 (.agg vc.toArray) (.agg zVl.cells.toArray)).run Tryz.prog wx = .ok true wx := fun wx => by have := hE wx; rwa [decide_eq_true ev] at this
      dsimp only [zVl, Vl.cells] at hE1
      rw [decide_eq_true ev] at hr
      have HE := Lib.hid hE1
      obtain ⟨ck, hck⟩ : ∃ ck, checkI t = ck := ⟨_, rfl⟩
      have HC1 := Lib.hid (HC.out W0 hb00)
      rw [hck] at HC1 hr
      clear hE hck
      by_cases ec : ck = 0
      · subst ec
        go_enter Tryz.func24, Tryz.ntmps24
        go_upto_region 1 with (fail)
        rw [← HW.out, ← HB.out]
        go_wp2_with (first | (refine wpList_mid rfl 41 _ rfl b 7 rfl N.toList _ (HR7.out _ hb00) undN rfl HI.out ?_; simp only [Array.toArray_toList]) | (refine wpList_mid rfl 34 _ rfl b 1 rfl vc _ (HR1.out _ hb00) undVl rfl HJ.out ?_) | (go_at_call 48; refine HC1.out.mono ?_; rintro e w2 ⟨rfl, hbe⟩))
        go_ret
        exact ⟨ret_bool (by rw [← hr]; simp), HBL.out.trans (hbe.mono HBL.out.size)⟩
      · have qc : (ck == 0) = false := by simpa using ec
        go_enter Tryz.func24, Tryz.ntmps24
        go_upto_region 1 with (fail)
        rw [← HW.out, ← HB.out]
        go_wp2_with (first | (refine wpList_mid rfl 41 _ rfl b 7 rfl N.toList _ (HR7.out _ hb00) undN rfl HI.out ?_; simp only [Array.toArray_toList]) | (refine wpList_mid rfl 34 _ rfl b 1 rfl vc _ (HR1.out _ hb00) undVl rfl HJ.out ?_) | (go_at_call 48; refine HC1.out.mono ?_; rintro e w2 ⟨rfl, hbe⟩))
        go_ret
        exact ⟨ret_bool (by rw [← hr]; simp [ec]), HBL.out.trans (hbe.mono HBL.out.size)⟩
    · have hE1 : ∀ wx, (Op.equalIn 10000 34 (.agg vc.toArray) (.agg zVl.cells.toArray)).run Tryz.prog wx = .ok false wx := fun wx => by have := hE wx; rwa [decide_eq_false ev] at this
      dsimp only [zVl, Vl.cells] at hE1
      rw [decide_eq_false ev] at hr
      clear hE
      go_enter Tryz.func24, Tryz.ntmps24
      go_upto_region 1 with (fail)
      rw [← HW.out, ← HB.out]
      go_wp2_with (first | (refine wpList_mid rfl 34 _ rfl b 1 rfl vc _ (HR1.out _ hb00) undVl rfl HJ.out ?_))
      go_ret
      exact ⟨ret_bool (by rw [← hr]; simp), HBL.out⟩
  have q2 : (k == 2) = false := by simpa using k2
  clear hE
  have hr := HR.out
  rw [if_neg k0, if_neg k1, if_neg k2] at hr
  have HR2 := Lib.hid hr
  clear hr
  go_enter Tryz.func24, Tryz.ntmps24
  go_upto_region 1 with (fail)
  rw [← HW.out, ← HB.out]
  go_wp2
  go_ret
  exact ⟨ret_bool HR2.out, HBL.out⟩
end Go.Proofs.YtelombedjkbckaaGreatDoor
