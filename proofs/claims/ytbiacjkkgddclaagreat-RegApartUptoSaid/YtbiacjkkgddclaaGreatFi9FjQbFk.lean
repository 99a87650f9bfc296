/- counterpaneref06.own, at some kinds. counterpaneref06.right: the plain law. Regions that draw their order, whose operations read and whose callees make memory alone: loads of whole rows in such a walk. No program in sight. counterpaneref06.own, right, Check. -/
import Derived.Test.YtbiacjkkgddclaaGreatFiM
import Derived.Test.YtbiacjkkgddclaaGreatXsFhTz0Cu
import Derived.Test.YtbiacjkkgddclaaGreatFdFh0Fb
import Derived.Test.YtbiacjkkgddclaaGreatRiCkXb
import Derived.Test.YtbiacjkkgddclaaGreatNdSr
import Derived.Lib.QuietBelow
import Derived.BigQuiet
import Derived.Test.YtbiacjkkgddclaaGreatFi4M
import Derived.Test.YtbiacjkkgddclaaGreatFi8dFi8
namespace Go.Proofs.YtbiacjkkgddclaaGreat
open Go.RowKit Go.Shelf

set_option maxRecDepth 100000 in
set_option maxHeartbeats 4000000 in
theorem rown9 (w : World) (v : Vl) (name : ByteArray) (a q : Cn) (rows : Int) (A : Option Addr) (n c : Nat) (r : Bool) (hd : ND.ok ⟨9, v, name, a, q, rows⟩)
    (hS : ∀ wx, Below w.heap.size w wx → Calls Tryz.prog 40 #[nodeV { zeroND with kind := 9 } A n c, nodeV ⟨9, v, name, a, q, rows⟩ A n c] wx fun e w' => e = .returned (.bool r) ∧ Below wx.heap.size wx w') :
    Calls Tryz.prog 67 #[nodeV ⟨9, v, name, a, q, rows⟩ A n c] w fun e w' => e = .returned (.bool (decide (n = 0) && r)) ∧ Below w.heap.size w w' := by
  have hh := nodeA_all ⟨9, v, name, a, q, rows⟩ A n c
  obtain ⟨N, hN⟩ : ∃ N, N = nodeA ⟨9, v, name, a, q, rows⟩ A n c := ⟨_, rfl⟩
  obtain ⟨M, hM⟩ : ∃ M : Array Value, M = #[.int .i64 9, .int .i64 0, .int .i64 0, .int .i64 0, .string ⟨#[]⟩, .bool false, .int .i64 0, .string ⟨#[]⟩, .int .i64 0, .int .i64 0, .int .i64 0, .int .i64 0, .bool false, .bool false, .int .i64 0, .int .i64 0, .int .i64 0, .int .i64 0, .bool false, .bool false, .int .i64 0, .slice A n c] := ⟨_, rfl⟩
  rw [← hN] at hh
  have hS' : ∀ wx, Below w.heap.size w wx → Calls Tryz.prog 40 #[.agg M, .agg N] wx fun e w' => e = .returned (.bool r) ∧ Below wx.heap.size wx w' := fun wx hx => by rw [hM, hN]; exact hS wx hx
  have hNs : N.size = 22 := by rw [hN]; rfl
  have hMs : M.size = 22 := by rw [hM]; rfl
  have hinf := infN
  rw [← hNs] at hinf
  have hinf' := infN
  rw [← hMs] at hinf'
  rw [nodeV, ← hN]
  obtain ⟨h0, h1, h2, h3, h4, h5, h6, h7, h8, h9, h10, h11, h12, h13, h14, h15, h16, h17, h18, h19, h20, h21⟩ := hh
  dsimp only at h0 h1 h2 h3 h4 h5 h6 h7 h8 h9 h10 h11 h12 h13 h14 h15 h16 h17 h18 h19 h20 h21
  have HS := Lib.hid hS'
  have HD := Lib.hid hd
  clear hS hS' hN hinf hinf' hd
  obtain ⟨W0, hW0⟩ : ∃ W0, W0 = (w.alloc (.cells N 35)).alloc (.cells #[.int .i64 9, .int .i64 0, .int .i64 0, .int .i64 0, .string ⟨#[]⟩, .bool false, .int .i64 0, .string ⟨#[]⟩, .int .i64 0, .int .i64 0, .int .i64 0, .int .i64 0, .bool false, .bool false, .int .i64 0, .int .i64 0, .int .i64 0, .int .i64 0, .bool false, .bool false, .int .i64 0, .slice A n c] 35) := ⟨_, rfl⟩
  have hb0 : Below w.heap.size w W0 := by rw [hW0]; exact ((Below.refl _ w).alloc (Nat.le_refl _) _).alloc (by simp) _
  have hk0 : W0.heap[w.heap.size]? = some (.cells N 35) := by rw [hW0]; exact (heapOld _ _ _ (by simp)).trans (heap_alloc_new _ _)
  have hk1 : W0.heap[w.heap.size + 1]? = some (.cells #[.int .i64 9, .int .i64 0, .int .i64 0, .int .i64 0, .string ⟨#[]⟩, .bool false, .int .i64 0, .string ⟨#[]⟩, .int .i64 0, .int .i64 0, .int .i64 0, .int .i64 0, .bool false, .bool false, .int .i64 0, .int .i64 0, .int .i64 0, .int .i64 0, .bool false, .bool false, .int .i64 0, .slice A n c] 35) := by rw [hW0]; exact heap_new1 w _ _
  have c0 : W0.cell? ⟨w.heap.size, 0, none⟩ = some (.int .i64 9) := by rw [Lib.cell_of_heap hk0]; exact h0
  have c20 : W0.cell? ⟨w.heap.size, 20, none⟩ = some (.int .i64 rows) := by rw [Lib.cell_of_heap hk0]; exact h20
  have c21 : W0.cell? ⟨w.heap.size, 21, none⟩ = some (.slice A n c) := by rw [Lib.cell_of_heap hk0]; exact h21
  have m20 : W0.cell? ⟨w.heap.size + 1, 20, none⟩ = some (.int .i64 0) := by rw [Lib.cell_of_heap hk1]; rfl
  have f20 : W0.frozen? ⟨w.heap.size + 1, 20, none⟩ = false := by simp [World.frozen?, hk1]
  have hB2 : Below w.heap.size w W0 := hb0
  have hN2 : W0.heap[w.heap.size]? = some (.cells N 35) := hk0
  have hM2 : W0.heap[w.heap.size + 1]? = some (.cells M 35) := by rw [hM]; exact hk1
  have HW0 := Lib.hid hW0
  have HB2 := Lib.hid hB2
  have HN2 := Lib.hid hN2
  have HM2 := Lib.hid hM2
  have HNS := Lib.hid hNs
  have HMS := Lib.hid hMs
  clear hW0 hb0 hk0 hk1 hB2 hN2 hM2 hM hNs hMs
  by_cases c1 : n = 0
  · subst c1
    have hres : (decide (0 = 0) && r) = (true && r) := by simp
    rw [hres]
    clear hres
    as_aux_lemma =>
    go_enter Tryz.func67, Tryz.ntmps67
    have e31 := cut_from 31 ownC
    obtain ⟨C, hC⟩ : ∃ C, C = fromRegion 31 ownC := ⟨_, rfl⟩
    rw [← hC] at e31
    have HC := Lib.hid hC
    clear hC
    change Code.wp Tryz.prog ownC _ _ _
    rw [← e31]
    clear e31
    conv => arg 2; whnf; repeat (arg 2; whnf)
    go_wp2_with (first | (refine wpList_nodeVar rfl rfl (w.heap.size + 1) (by simp) ?_) | (refine wpList_storeFresh (w := w.alloc (.cells N 35)) rfl _ _ _ rfl (w.heap.size + 1) (World.size_alloc _ _) _ rfl rfl infN rfl (by simp [Value.oneCell']) ?_; rw [← HW0.out]) | fail)
    refine Code.wp_mono (own_fin HB2.out) ?_
    rw [HC.out]
    exact own31 _ _ _ _ _ _ _ _ _ _ _ _ _ _ _ _ _ _ _ _ _ _ _ _ _ _ _ _ _ _ _ _ _ _ _ _ _ _ _ _ _ _ _ _ _ _ _ _ _ _ _ _ _ _ _ _ _ _ _ _ _ _ _ _ _ _ _ _ _ _ _ _ _ _ _ _ _ _ _ _ _ _ _ _ _ _ _ _ _ _ _ _ _ _ _ _ _ _ _ _ _ _ _ _ _ _ _ _ _ _ _ _ _ _ _ _ _ _ _ _ _ _ _ _ _ _ _ _ _ _ _ _ _ _ _ _ _ _ _ _ _ _ _ _ _ _ _ _ _ _ _ _ _ _ _ _ _ _ _ _ _ _ _ _ _ _ W0 N M w.heap.size true r HN2.out HM2.out HNS.out HMS.out (HS.out _ HB2.out)
  · have q1 : ((n : Int) == 0) = false := by rw [beq_eq_false_iff_ne]; omega
    have q2 : decide (n = 0) = false := by simp [c1]
    have q3 : decide ((n : Int) = 0) = false := by rw [decide_eq_false_iff_not]; omega
    have q4 : (n == 0) = false := by rw [beq_eq_false_iff_ne]; omega
    clear c1
    have hres : (decide (n = 0) && r) = (false && r) := by rw [q2]
    rw [hres]
    clear hres
    as_aux_lemma =>
    go_enter Tryz.func67, Tryz.ntmps67
    have e31 := cut_from 31 ownC
    obtain ⟨C, hC⟩ : ∃ C, C = fromRegion 31 ownC := ⟨_, rfl⟩
    rw [← hC] at e31
    have HC := Lib.hid hC
    clear hC
    change Code.wp Tryz.prog ownC _ _ _
    rw [← e31]
    clear e31
    conv => arg 2; whnf; repeat (arg 2; whnf)
    go_wp2_with (first | (refine wpList_nodeVar rfl rfl (w.heap.size + 1) (by simp) ?_) | (refine wpList_storeFresh (w := w.alloc (.cells N 35)) rfl _ _ _ rfl (w.heap.size + 1) (World.size_alloc _ _) _ rfl rfl infN rfl (by simp [Value.oneCell']) ?_; rw [← HW0.out]) | fail)
    refine Code.wp_mono (own_fin HB2.out) ?_
    rw [HC.out]
    exact own31 _ _ _ _ _ _ _ _ _ _ _ _ _ _ _ _ _ _ _ _ _ _ _ _ _ _ _ _ _ _ _ _ _ _ _ _ _ _ _ _ _ _ _ _ _ _ _ _ _ _ _ _ _ _ _ _ _ _ _ _ _ _ _ _ _ _ _ _ _ _ _ _ _ _ _ _ _ _ _ _ _ _ _ _ _ _ _ _ _ _ _ _ _ _ _ _ _ _ _ _ _ _ _ _ _ _ _ _ _ _ _ _ _ _ _ _ _ _ _ _ _ _ _ _ _ _ _ _ _ _ _ _ _ _ _ _ _ _ _ _ _ _ _ _ _ _ _ _ _ _ _ _ _ _ _ _ _ _ _ _ _ _ _ _ _ _ W0 N M w.heap.size false r HN2.out HM2.out HNS.out HMS.out (HS.out _ HB2.out)

set_option maxRecDepth 100000 in
set_option maxHeartbeats 4000000 in
theorem rown10 (w : World) (kind : Int) (N : Array Value) (hN : N[0]? = some (.int .i64 kind)) (A : Option Addr) (n c : Nat) (hN2 : N[21]? = some (.slice A n c)) (hk : kind < 0 ∨ 9 < kind) :
    Calls Tryz.prog 67 #[.agg N] w fun e w' => e = .returned (.bool false) ∧ Below w.heap.size w w' := by
  have q0 : (kind == 0) = false := by rw [beq_eq_false_iff_ne]; omega
  have q1 : (kind == 1) = false := by rw [beq_eq_false_iff_ne]; omega
  have q2 : (kind == 2) = false := by rw [beq_eq_false_iff_ne]; omega
  have q3 : (kind == 3) = false := by rw [beq_eq_false_iff_ne]; omega
  have q4 : (kind == 4) = false := by rw [beq_eq_false_iff_ne]; omega
  have q5 : (kind == 5) = false := by rw [beq_eq_false_iff_ne]; omega
  have q6 : (kind == 6) = false := by rw [beq_eq_false_iff_ne]; omega
  have q7 : (kind == 7) = false := by rw [beq_eq_false_iff_ne]; omega
  have q8 : (kind == 8) = false := by rw [beq_eq_false_iff_ne]; omega
  have q9 : (kind == 9) = false := by rw [beq_eq_false_iff_ne]; omega
  clear hk
  go_enter Tryz.func67, Tryz.ntmps67
  go_wp2_with (first | (refine wpList_nodeVar rfl rfl (w.heap.size + 1) (by simp) ?_) | (refine wpList_storeFresh (w := w.alloc (.cells N 35)) rfl _ _ _ rfl (w.heap.size + 1) (World.size_alloc _ _) _ rfl rfl infN rfl (by simp [Value.oneCell']) ?_) | fail)
  go_ret
  exact ⟨rfl, ((Below.refl _ w).alloc (Nat.le_refl _) _).alloc (by simp) _⟩
end Go.Proofs.YtbiacjkkgddclaaGreat
namespace Go.Proofs.YtbiacjkkgddclaaGreat
open Go.RowKit Go.Shelf

/-- is a node right, but for those below it? -/
def rownB (d : ND) (n : Nat) (k0 : Int) : Bool :=
  if d.kind = 0 then litB d.v && decide (n = 0) && decide ({ zeroND with v := d.v, kind := d.kind } = d)
  else if d.kind = 1 ∨ d.kind = 3 then d.a.row && d.a.col && decide (n = 0) && decide ({ zeroND with a := d.a, kind := d.kind } = d)
  else if d.kind = 2 then rangeB d.a d.b && decide (n = 0) && decide ({ zeroND with a := d.a, b := d.b, kind := d.kind } = d)
  else if d.kind = 4 then isCallB d.name && decide (n ≤ 32) && !decide (n = 1 ∧ k0 = 9) && decide ({ zeroND with name := d.name, kind := d.kind } = d)
  else if d.kind = 5 then unaryB d.name && decide (n = 1) && decide ({ zeroND with name := d.name, kind := d.kind } = d)
  else if d.kind = 6 then binaryB d.name && decide (n = 2) && decide ({ zeroND with name := d.name, kind := d.kind } = d)
  else if d.kind = 7 then isNameB d.name && decide (n = 0) && decide ({ zeroND with name := d.name, kind := d.kind } = d)
  else if d.kind = 8 then decide (1 ≤ d.rows) && decide (1 ≤ n) && decide ((n : Int) % d.rows = 0) && decide ({ zeroND with rows := d.rows, kind := d.kind } = d)
  else if d.kind = 9 then decide (n = 0) && decide ({ zeroND with kind := d.kind } = d)
  else false
mutual
def rrightB : Tr → Bool → Bool
  | .mk d l, call => rownB d l.length (kind0 l) && (decide (d.kind ≠ 9) || call) && rrightsB d.kind l
def rrightsB (k : Int) : List Tr → Bool
  | [] => true
  | t :: ts => (!(decide (k = 8) && decide (t.d.kind ≠ 0)) && !(decide (k ≠ 8) && belowB t.d) && rrightB t (decide (k = 4))) && rrightsB k ts
end
theorem rrights_append (k : Int) : ∀ (l m : List Tr), rrightsB k (l ++ m) = (rrightsB k l && rrightsB k m)
  | [], m => by simp [rrightsB]
  | t :: l, m => by simp only [List.cons_append, rrightsB, rrights_append k l m, Bool.and_assoc]
theorem nd_comm (a b : ND) : decide (a = b) = decide (b = a) := decide_eq_decide.2 eq_comm
theorem dec_and (p q : Prop) [Decidable p] [Decidable q] : decide (p ∧ q) = (decide q && decide p) := by rw [Bool.decide_and, Bool.and_comm]

/-- own: of the two, where a node stands below one of that kind. -/
theorem own_rown (d : ND) (n : Nat) (k0 above : Int) : ownB d n k0 above = (rownB d n k0 && (decide (d.kind ≠ 9) || decide (above = 4)) && (decide (above = 8) || !belowB d)) := by
  obtain ⟨kind, v, name, a, q, rows⟩ := d
  unfold ownB rownB
  dsimp only
  by_cases k0' : kind = 0
  · subst k0'
    rw [if_pos rfl, if_pos rfl, dec_and, nd_comm]
    have hbl : belowB ⟨0, v, name, a, q, rows⟩ = (decide (v.k = 1) && decide (v.mant < 0)) := by unfold belowB; simp
    rw [hbl, show decide ((0 : Int) ≠ 9) = true from rfl]
    unfold litRight litB
    have hb : (decide (v.k ≠ 0) && valRight v) = true → v.mant < 0 → v.k = 1 := by
      intro h hm
      unfold valRight at h
      rw [Bool.and_eq_true, decide_eq_true_eq] at h
      obtain ⟨h0, h⟩ := h
      rw [if_neg h0] at h
      by_cases h1 : v.k = 1
      · exact h1
      rw [if_neg h1] at h
      exfalso
      by_cases h2 : v.k = 2
      · rw [if_pos h2] at h
        have h := of_decide_eq_true h
        unfold textV badV at h
        split at h <;> (have := congrArg Vl.mant h; dsimp only at this; omega)
      rw [if_neg h2] at h
      by_cases h3 : v.k = 3
      · rw [if_pos h3] at h
        have h := of_decide_eq_true h
        unfold truthV at h
        have := congrArg Vl.mant h; dsimp only at this; omega
      rw [if_neg h3] at h
      by_cases h4 : v.k = 4
      · rw [if_pos h4] at h
        have h := of_decide_eq_true h
        unfold badV at h
        have := congrArg Vl.mant h; dsimp only at this; omega
      rw [if_neg h4] at h
      cases h
    have key : ((decide (v.k ≠ 0) && valRight v) && (decide (above = 8) || decide (0 ≤ v.mant))) = ((decide (v.k ≠ 0) && valRight v) && (decide (above = 8) || !(decide (v.k = 1) && decide (v.mant < 0)))) := by
      cases hlv : (decide (v.k ≠ 0) && valRight v)
      · rfl
      · have hb' := hb hlv
        by_cases hm : v.mant < 0
        · rw [decide_eq_true (hb' hm), decide_eq_true hm, decide_eq_false (p := 0 ≤ v.mant) (by omega)]; rfl
        · rw [decide_eq_false (p := v.mant < 0) hm, decide_eq_true (p := 0 ≤ v.mant) (by omega)]; simp
    rw [key]
    generalize (decide (v.k ≠ 0) && valRight v) = x1
    generalize (decide (above = 8) || !(decide (v.k = 1) && decide (v.mant < 0))) = x2
    generalize decide (n = 0) = x3
    generalize decide (above = 4) = x4
    generalize decide (({ zeroND with v := v, kind := 0 } : ND) = ⟨0, v, name, a, q, rows⟩) = x5
    cases x1 <;> cases x2 <;> cases x3 <;> cases x4 <;> cases x5 <;> rfl
  rw [if_neg k0', if_neg k0']
  have hbel : belowB ⟨kind, v, name, a, q, rows⟩ = false := by unfold belowB; simp [k0']
  rw [hbel]
  simp only [Bool.not_false, Bool.or_true, Bool.and_true]
  by_cases k1 : kind = 1 ∨ kind = 3
  · rw [if_pos k1, if_pos k1, dec_and, nd_comm, decide_eq_true (p := kind ≠ 9) (by omega)]
    simp only [Bool.true_or, Bool.and_true, Bool.and_assoc]
  rw [if_neg k1, if_neg k1]
  by_cases k2 : kind = 2
  · rw [if_pos k2, if_pos k2, dec_and, nd_comm, decide_eq_true (p := kind ≠ 9) (by omega)]
    simp only [Bool.true_or, Bool.and_true, Bool.and_assoc]
  rw [if_neg k2, if_neg k2]
  by_cases k4 : kind = 4
  · rw [if_pos k4, if_pos k4, nd_comm, decide_eq_true (p := kind ≠ 9) (by omega)]
    simp only [Bool.true_or, Bool.and_true, Bool.and_assoc]
  rw [if_neg k4, if_neg k4]
  by_cases k5 : kind = 5
  · rw [if_pos k5, if_pos k5, nd_comm, decide_eq_true (p := kind ≠ 9) (by omega)]
    simp only [Bool.true_or, Bool.and_true, Bool.and_assoc]
  rw [if_neg k5, if_neg k5]
  by_cases k6 : kind = 6
  · rw [if_pos k6, if_pos k6, nd_comm, decide_eq_true (p := kind ≠ 9) (by omega)]
    simp only [Bool.true_or, Bool.and_true, Bool.and_assoc]
  rw [if_neg k6, if_neg k6]
  by_cases k7 : kind = 7
  · rw [if_pos k7, if_pos k7, dec_and, nd_comm, decide_eq_true (p := kind ≠ 9) (by omega)]
    simp only [Bool.true_or, Bool.and_true, Bool.and_assoc]
  rw [if_neg k7, if_neg k7]
  by_cases k8 : kind = 8
  · rw [if_pos k8, if_pos k8, nd_comm, decide_eq_true (p := kind ≠ 9) (by omega)]
    simp only [Bool.true_or, Bool.and_true, Bool.and_assoc]
  rw [if_neg k8, if_neg k8]
  by_cases k9 : kind = 9
  · rw [if_pos k9, if_pos k9, dec_and, nd_comm, decide_eq_false (p := kind ≠ 9) (by omega)]
    simp only [Bool.false_or]
    rw [Bool.and_comm]
  rw [if_neg k9, if_neg k9]
  rfl
theorem right_rright (t : Tr) : ∀ above : Int, rightB t above = (rrightB t (decide (above = 4)) && (decide (above = 8) || !belowB t.d)) := by
  induction t using Tr.ind with
  | _ d l ih =>
    intro above
    have hl : rightsB d.kind l = rrightsB d.kind l := by
      induction l with
      | nil => rfl
      | cons t ts ih2 =>
        simp only [rightsB, rrightsB]
        rw [ih2 (fun t' h => ih t' (by simp [h])), ih t (by simp) d.kind]
        congr 1
        by_cases h8 : d.kind = 8
        · simp [h8]
        · simp [h8, Bool.and_comm]
    simp only [rightB, rrightB, Tr.d]
    rw [own_rown, hl]
    generalize rownB d l.length (kind0 l) = x1
    generalize rrightsB d.kind l = x2
    generalize (decide (d.kind ≠ 9) || decide (above = 4)) = x3
    generalize (decide (above = 8) || !belowB d) = x4
    cases x1 <;> cases x2 <;> cases x3 <;> cases x4 <;> rfl
def rcheckI (t : Tr) : Int := if 256 < t.size then 5 else if 32 < t.depth then 8 else if belowB t.d = true ∨ rrightB t false = false then 6 else 0
theorem rcheck_eq (t : Tr) : rcheckI t = checkI t := by
  unfold rcheckI checkI
  split
  · rfl
  split
  · rfl
  rw [right_rright]
  have e1 : decide ((6 : Int) = 4) = false := by decide
  have e2 : decide ((6 : Int) = 8) = false := by decide
  rw [e1, e2]
  cases rrightB t false <;> cases belowB t.d <;> simp
end Go.Proofs.YtbiacjkkgddclaaGreat
namespace Go.Proofs.YtbiacjkkgddclaaGreat
open Go.RowKit Go.Sort

theorem range_regrown {w : World} {b o : Nat} {cs : List Value} (h : w.rangeAt b o cs) (d : Nat) (os : Array Obj) : (grow (redrawn w d) os).rangeAt b o cs :=
  fun j v hv => cell_regrown (h j v hv) d os
/-- a row in the midst of a block is read. -/
theorem quiet_mid {P : Program} {a : Act} {w : World} {o : Oper} {K : Act → Prop} (ty : TypeId) (x : Operand) (ho : o.op = .load ty x)
    (b off : Nat) (hx : a.eval x = .pointer (some ⟨b, off, none⟩)) (cs : List Value) (d : TypeDesc) (hc : w.rangeAt b off cs)
    (hu : P.underlying ty = some d) (hd : d.isRow = true) (hi : (P.info? ty).map (·.size) = some cs.length)
    (hk : K (a.put o.dst (.agg cs.toArray))) : o.quiet P a (fun w' => ∃ p : Regrown, w' = grow (redrawn w p.d) p.os) K := by
  refine ⟨.agg cs.toArray, fun w' hw' => ?_, hk⟩
  obtain ⟨p, rfl⟩ := hw'
  unfold Oper.quietAt execOp
  simp only [ho, hx, Instr.loadAt, Instr.sureAddr, Sem.run_bind, Sem.run_pure, Result.andThen_ok, run_loadVar_mid _ b off ty cs d (range_regrown hc p.d p.os) hu hd hi]
  exact ⟨rfl, rfl⟩
end Go.Proofs.YtbiacjkkgddclaaGreat
namespace Go.Proofs.YtbiacjkkgddclaaGreat
open Go.RowKit Go.Shelf Go.Sort Go.BigFrame

theorem rown_any (w : World) (B : Nat) (d : ND) (l : List Tr) (A : Option Addr) (c : Nat) (hd : d.ok) (hs : SlAt w B A c l) (hB : B ≤ w.heap.size) :
    Calls Tryz.prog 67 #[nodeV d A l.length c] w fun e w' => e = .returned (.bool (rownB d l.length (kind0 l))) ∧ Below w.heap.size w w' := by
  have hs' := hs.more hB
  have hk0 : l.length = 1 → ∃ kb ko, A = some ⟨kb, ko, none⟩ ∧ kb < w.heap.size ∧ w.cell? ⟨kb, ko, none⟩ = some (.int .i64 (kind0 l)) := by
    intro h1
    obtain ⟨b, o, hA, hn⟩ := hs'.at_ 0 (by omega)
    obtain ⟨hb, _, A2, c2, hc, _⟩ := hn.open_
    refine ⟨b, o, hA, hb, ?_⟩
    have := hc.all.1
    rw [Nat.zero_mul, Nat.add_zero] at this
    rw [this]
    match l, h1 with
    | [t], _ => rfl
  obtain ⟨kind, v, name, a, q, rows⟩ := d
  obtain ⟨h1, h2, h3, h4, h5, h6⟩ := id hd
  have z0 : i64 0 := by unfold i64; omega
  have zc : zeroCn.ok := ⟨z0, z0, z0, z0⟩
  have zv : zeroV.ok := ⟨z0, z0, z0, by decide, z0⟩
  have zn : noBytes.size ≤ 9223372036854775807 := by decide
  unfold rownB
  dsimp only at h1 h2 h3 h4 h5 h6 ⊢
  by_cases k0 : kind = 0
  · subst k0
    rw [if_pos rfl]
    exact rown0 w v name a q rows A l.length c _ hd (own_sameF w _ _ l A c hd ⟨h1, h2, zn, zc, zc, z0⟩ hs')
  rw [if_neg k0]
  by_cases k1 : kind = 1
  · subst k1
    rw [if_pos (.inl rfl)]
    exact rown1 w v name a q rows A l.length c _ hd (own_sameF w _ _ l A c hd ⟨h1, zv, zn, h4, zc, z0⟩ hs')
  by_cases k3 : kind = 3
  · subst k3
    rw [if_pos (.inr rfl)]
    exact rown3 w v name a q rows A l.length c _ hd (own_sameF w _ _ l A c hd ⟨h1, zv, zn, h4, zc, z0⟩ hs')
  rw [if_neg (by omega)]
  by_cases k2 : kind = 2
  · subst k2
    rw [if_pos rfl]
    exact rown2 w v name a q rows A l.length c _ hd (own_sameF w _ _ l A c hd ⟨h1, zv, zn, h4, h5, z0⟩ hs')
  rw [if_neg k2]
  by_cases k4 : kind = 4
  · subst k4
    rw [if_pos rfl]
    exact rown4 w v name a q rows A l.length c _ hd (kind0 l) hk0 (own_sameF w _ _ l A c hd ⟨h1, zv, h3, zc, zc, z0⟩ hs')
  rw [if_neg k4]
  by_cases k5 : kind = 5
  · subst k5
    rw [if_pos rfl]
    exact rown5 w v name a q rows A l.length c _ hd (own_sameF w _ _ l A c hd ⟨h1, zv, h3, zc, zc, z0⟩ hs')
  rw [if_neg k5]
  by_cases k6 : kind = 6
  · subst k6
    rw [if_pos rfl]
    exact rown6 w v name a q rows A l.length c _ hd (own_sameF w _ _ l A c hd ⟨h1, zv, h3, zc, zc, z0⟩ hs')
  rw [if_neg k6]
  by_cases k7 : kind = 7
  · subst k7
    rw [if_pos rfl]
    exact rown7 w v name a q rows A l.length c _ hd (own_sameF w _ _ l A c hd ⟨h1, zv, h3, zc, zc, z0⟩ hs')
  rw [if_neg k7]
  by_cases k8 : kind = 8
  · subst k8
    rw [if_pos rfl]
    exact rown8 w v name a q rows A l.length c _ hd (own_sameF w _ _ l A c hd ⟨h1, zv, zn, zc, zc, h6⟩ hs')
  rw [if_neg k8]
  by_cases k9 : kind = 9
  · subst k9
    rw [if_pos rfl]
    exact rown9 w v name a q rows A l.length c _ hd (own_sameF w _ _ l A c hd ⟨h1, zv, zn, zc, zc, z0⟩ hs')
  rw [if_neg k9]
  exact rown10 w kind _ rfl A l.length c rfl (by omega)

theorem rrights_step {k : Int} {l : List Tr} {i : Nat} (hi : i < l.length) (h : rrightsB k (l.take i) = true) : rrightsB k (l.take (i + 1)) = (!(decide (k = 8) && decide (l[i].d.kind ≠ 0)) && !(decide (k ≠ 8) && belowB l[i].d) && rrightB l[i] (decide (k = 4))) := by
  rw [List.take_succ_eq_append_getElem hi, rrights_append, h]; simp [rrightsB]
theorem rrights_no {k : Int} {l : List Tr} {i : Nat} (hi : i < l.length) (h : (!(decide (k = 8) && decide (l[i].d.kind ≠ 0)) && !(decide (k ≠ 8) && belowB l[i].d) && rrightB l[i] (decide (k = 4))) = false) : rrightsB k l = false := by
  rw [← List.take_append_drop i l, rrights_append, List.drop_eq_getElem_cons hi]
  simp only [rrightsB, h, Bool.false_and, Bool.and_false]

set_option maxRecDepth 100000 in
set_option maxHeartbeats 4000000 in
theorem rright_c (t : Tr) : ∀ (w : World) (B : Nat) (A : Option Addr) (c : Nat) (call : Bool) (_ : t.d.ok) (_ : SlAt w B A c t.l) (_ : B ≤ w.heap.size),
    Calls Tryz.prog 51 #[nodeV t.d A t.l.length c, .bool call] w fun e w' => e = .returned (.bool (rrightB t call)) ∧ Below w.heap.size w w' := by
  induction t using Tr.ind with | _ d l ih => ?_
  intro w B A c call hd hs hB
  have IH := Lib.hid ih
  have HS := Lib.hid hs
  dsimp only [Tr.d, Tr.l] at HS hd hs ⊢
  have hO := fun wx (hx : Below w.heap.size w wx) => rown_any wx B d l A c hd (hs.below (hx.mono hB)) (by have := hx.size; omega)
  clear ih hs hd
  obtain ⟨r, hr⟩ : ∃ r, rrightB (.mk d l) call = r := ⟨_, rfl⟩
  rw [hr]
  simp only [rrightB] at hr
  obtain ⟨n, hn⟩ : ∃ n, l.length = n := ⟨_, rfl⟩
  obtain ⟨N, hN⟩ : ∃ N, N = nodeA d A n c := ⟨_, rfl⟩
  rw [hn] at hr hO
  simp only [nodeV, hn, ← hN] at hO ⊢
  have hsl := HS.out.1
  have hsc := HS.out.2.1
  rw [hn] at hsl
  have hN21 : N[21]? = some (.slice A n c) := by rw [hN]; rfl
  obtain ⟨kd, hkd⟩ : ∃ kd, d.kind = kd := ⟨_, rfl⟩
  have hN0 : N[0]? = some (.int .i64 kd) := by rw [hN, ← hkd]; rfl
  have hNs : N.size = 22 := by rw [hN]; rfl
  have hinf := infN
  rw [← hNs] at hinf
  rw [hkd] at hr
  obtain ⟨W, hW⟩ : ∃ W, W = w.alloc (.cells N 35) := ⟨_, rfl⟩
  have hbW : Below w.heap.size w W := by rw [hW]; exact (Below.refl _ w).alloc (Nat.le_refl _) _
  have hsz : w.heap.size + 1 = W.heap.size := by rw [hW]; simp
  have hkW : W.heap[w.heap.size]? = some (.cells N 35) := by rw [hW]; exact World.alloc_heap_new w _
  have haft : ∀ wx, Below W.heap.size W wx → Below w.heap.size w wx ∧ wx.cell? ⟨w.heap.size, 0, none⟩ = some (.int .i64 kd) ∧ wx.cell? ⟨w.heap.size, 21, none⟩ = some (.slice A n c) := fun wx hx => by
    have hk : wx.heap[w.heap.size]? = some (.cells N 35) := (hx.block _ (by omega)).trans hkW
    exact ⟨hbW.trans (hx.mono (by omega)), by rw [Lib.cell_of_heap hk]; exact hN0, by rw [Lib.cell_of_heap hk]; exact hN21⟩
  obtain ⟨r0, hr0⟩ : ∃ r0, rownB d n (kind0 l) = r0 := ⟨_, rfl⟩
  rw [hr0] at hO hr
  have HO := Lib.hid hO
  have HR := Lib.hid hr
  have HN := Lib.hid hn
  have HIN := Lib.hid hinf
  have HW := Lib.hid hW
  have HA := Lib.hid haft
  have HKW := Lib.hid hkW
  have HBW := Lib.hid hbW
  clear hO hr hn hN hinf hW haft hkW hbW hN21 hN0 hNs hr0 hkd hsz
  cases r0
  · go_enter Tryz.func51, Tryz.ntmps51
    go_upto_region 1 with (fail)
    (try simp only [Act.put, List.setIfInBounds_toArray, List.set_cons_zero, List.set_cons_succ])
    rw [← HW.out]
    go_wp2_with (first | (refine wpList_row rfl 35 _ rfl w.heap.size rfl 35 N (0, 0) _ HKW.out undN rfl HIN.out ?_) | (go_at_call 67; refine (HO.out _ HBW.out).mono ?_; rintro e w2 ⟨rfl, hbe⟩))
    go_ret
    exact ⟨ret_bool (by rw [← HR.out]; rfl), HBW.out.trans (hbe.mono HBW.out.size)⟩
  by_cases h9 : kd = 9 ∧ call = false
  · obtain ⟨rfl, rfl⟩ := h9
    go_enter Tryz.func51, Tryz.ntmps51
    go_upto_region 1 with (fail)
    (try simp only [Act.put, List.setIfInBounds_toArray, List.set_cons_zero, List.set_cons_succ])
    rw [← HW.out]
    go_wp2_with (first | (refine wpList_row rfl 35 _ rfl w.heap.size rfl 35 N (0, 0) _ HKW.out undN rfl HIN.out ?_) | (go_at_call 67; refine (HO.out _ HBW.out).mono ?_; rintro e w2 ⟨rfl, hbe⟩; obtain ⟨hb2, hc0, hc21⟩ := HA.out w2 hbe))
    go_ret
    exact ⟨ret_bool (by rw [← HR.out]; rfl), hb2⟩
  have hr2 : r = rrightsB kd l := by
    rw [← HR.out]
    by_cases h : kd = 9
    · have hc : call = true := by cases call with | true => rfl | false => exact absurd ⟨h, rfl⟩ h9
      rw [hc]; simp
    · simp [h]
  have HR2 := Lib.hid hr2
  clear HR hr2
  obtain ⟨b9, hb9⟩ : ∃ b, (kd == 9) = b := ⟨_, rfl⟩
  have hb9' : decide (kd = 9) = b9 := by rw [← hb9]; rfl
  have hcall : b9 = true → call = true := by
    intro h
    rw [h] at hb9
    have h9' : kd = 9 := by simpa using hb9
    cases call with | true => rfl | false => exact absurd ⟨h9', rfl⟩ h9
  clear h9
  have HX := Lib.hid hcall
  clear hcall
  cases b9
  case' true =>
    obtain rfl := HX.out rfl
  all_goals clear HX
  all_goals
    go_enter Tryz.func51, Tryz.ntmps51
    go_upto_region 1 with (fail)
    (try simp only [Act.put, List.setIfInBounds_toArray, List.set_cons_zero, List.set_cons_succ])
    rw [← HW.out]
    go_wp2_with (first | (refine wpList_row rfl 35 _ rfl w.heap.size rfl 35 N (0, 0) _ HKW.out undN rfl HIN.out ?_) | (go_at_call 67; refine (HO.out _ HBW.out).mono ?_; rintro e w2 ⟨rfl, hbe⟩; obtain ⟨hb2, hc0, hc21⟩ := HA.out w2 hbe))
    clear hb9 hb9' hc0 hc21 hb2
    have HBE := Lib.hid hbe
    clear hbe
    go_loopw [5] (fun i wr => ∃ j : Nat, j ≤ n ∧ i = .int .i64 j ∧ Hid (rrightsB kd (l.take j) = true) ∧ Hid (Below W.heap.size W wr)) (fun i _ => n - (intOf i).toNat)
    case atStart => exact ⟨0, Nat.zero_le _, rfl, Lib.hid (by simp [rrightsB]), HBE⟩
    case round =>
      obtain ⟨j, hj, rfl, hacc, hbr⟩ := hrel
      obtain ⟨hfin, hc0, hc21⟩ := HA.out wr hbr.out
      have HFI := Lib.hid hfin
      by_cases hlt : j < n
      · have hjl : j < l.length := by rw [HN.out]; exact hlt
        obtain ⟨b2, o2, hA, hkn⟩ := HS.out.at_ j hjl
        subst hA
        obtain ⟨hkb, hkdok, A2, c2, hkc, hks⟩ := hkn.open_
        have hkid := fun wx (hx : Below w.heap.size w wx) => IH.out l[j] (List.getElem_mem hjl) wx B A2 c2 (decide (kd = 4)) hkdok (hks.below (hx.mono hB)) (by have := hx.size; omega)
        have hbel := fun wx => rbelow_any wx l[j].d A2 l[j].l.length c2
        obtain ⟨cs, hcs, hcl, hrg⟩ := hkc.range (w' := wr) (fun p hp => hfin.cell (by omega))
        have hkk : wr.cell? ⟨b2, o2 + j * 22, none⟩ = some (.int .i64 l[j].d.kind) := (hfin.cell (p := ⟨b2, o2 + j * 22, none⟩) (by show b2 < _; omega)).trans hkc.all.1
        simp only [nodeV, ← hcs] at hkid hbel
        obtain ⟨kk, hkke⟩ : ∃ kk, l[j].d.kind = kk := ⟨_, rfl⟩
        have hstep := fun h => rrights_step (k := kd) hjl h
        have hno := fun h => rrights_no (k := kd) hjl h
        rw [hkke] at hkk hstep hno
        obtain ⟨bl, hbl⟩ : ∃ b, belowB l[j].d = b := ⟨_, rfl⟩
        obtain ⟨rk, hrk⟩ : ∃ b, rrightB l[j] (decide (kd = 4)) = b := ⟨_, rfl⟩
        rw [hbl] at hbel hstep hno
        rw [hrk] at hkid hstep hno
        obtain ⟨b4, hb4⟩ : ∃ b, decide (kd = 4) = b := ⟨_, rfl⟩
        rw [hb4] at hkid
        have hb4' : (kd == 4) = b4 := by rw [← hb4]; rfl
        have hq0 : ∀ d os, (grow (redrawn wr d) os).cell? ⟨w.heap.size, 0, none⟩ = some (.int .i64 kd) := fun d os => cell_regrown hc0 d os
        have hq21 : ∀ d os, (grow (redrawn wr d) os).cell? ⟨w.heap.size, 21, none⟩ = some (.slice (some ⟨b2, o2, none⟩) n c) := fun d os => cell_regrown hc21 d os
        have hqk : ∀ d os, (grow (redrawn wr d) os).cell? ⟨b2, o2 + j * 22, none⟩ = some (.int .i64 kk) := fun d os => cell_regrown hkk d os
        have hkid' : ∀ d os, Calls Tryz.prog 51 #[.agg cs.toArray, .bool b4] (grow (redrawn wr d) os) fun e w'' => e = .returned (.bool rk) ∧ ∃ p : Regrown, w'' = grow (redrawn wr p.d) p.os := fun d os =>
          Calls.regrown_of (hkid _ (hfin.trans ((below_regrown wr d os).mono hfin.size)))
        have hbel' : ∀ d os, Calls Tryz.prog 50 #[.agg cs.toArray] (grow (redrawn wr d) os) fun e w'' => e = .returned (.bool bl) ∧ ∃ p : Regrown, w'' = grow (redrawn wr p.d) p.os := fun d os =>
          Calls.regrown_of (hbel _)
        have HKI := Lib.hid hkid'
        have HBL := Lib.hid hbel'
        have HRG := Lib.hid hrg
        have HST := Lib.hid hstep
        have HNO := Lib.hid hno
        have hcl' : Hid ((Tryz.prog.info? 35).map (·.size) = some cs.length) := Lib.hid (by rw [hcl]; exact infN)
        have hj1 : (j : Int) < (n : Int) := by omega
        have hj0 : (0 : Int) ≤ (j : Int) := by omega
        clear hkn hkb hkdok hkc hks hkid hkid' hbel hbel' hrg hcs hcl hkke hstep hno hbl hrk hfin hkk
        by_cases h8 : kd = 8
        · subst h8
          by_cases hk0 : kk = 0
          · subst hk0
            cases rk
            all_goals
              go_wp2
              refine wp_region_quiet_below (by kernel_rfl) (by kernel_rfl) ?_
              repeat (first
                | (go_big_quiet_want; refine quiet_mid 35 _ rfl b2 (o2 + j * 22) rfl cs _ HRG.out undN rfl hcl'.out ?_; simp only [Act.put, List.setIfInBounds_toArray, List.set_cons_zero, List.set_cons_succ]; go_big_quiet_on)
                | go_big_quiet_step (first | with_reducible exact HBL.out _ _ | with_reducible exact HKI.out _ _))
              refine wpQuiet_nil ?_
              rintro w4 ⟨⟨dq, osq⟩, hq4⟩
              have hb5 : Below wr.heap.size wr w4 := by rw [hq4]; exact below_regrown wr dq osq
              clear hq4
              go_wp2
            · go_ret
              exact ⟨ret_bool (by rw [HR2.out]; exact (HNO.out (by simp)).symm), HFI.out.trans (hb5.mono HFI.out.size)⟩
            · go_roundw
              case rel => exact ⟨j + 1, by omega, by go_num, Lib.hid ((HST.out hacc.out).trans (by simp)), Lib.hid (hbr.out.trans (hb5.mono hbr.out.size))⟩
              case measure => simp [intOf]; omega
          · have q1 : (kk != 0) = true := by simpa using hk0
            have q2 : decide (kk = 0) = false := by simpa using hk0
            have hno' := HNO.out (by simp [hk0])
            have HNN := Lib.hid hno'
            clear hk0 hno'
            go_wp2
            refine wp_region_quiet_below (by kernel_rfl) (by kernel_rfl) ?_
            repeat (first
              | (go_big_quiet_want; refine quiet_mid 35 _ rfl b2 (o2 + j * 22) rfl cs _ HRG.out undN rfl hcl'.out ?_; simp only [Act.put, List.setIfInBounds_toArray, List.set_cons_zero, List.set_cons_succ]; go_big_quiet_on)
              | go_big_quiet_step (first | with_reducible exact HBL.out _ _ | with_reducible exact HKI.out _ _))
            refine wpQuiet_nil ?_
            rintro w4 ⟨⟨dq, osq⟩, hq4⟩
            have hb5 : Below wr.heap.size wr w4 := by rw [hq4]; exact below_regrown wr dq osq
            clear hq4
            go_wp2
            go_ret
            exact ⟨ret_bool (by rw [HR2.out]; exact HNN.out.symm), HFI.out.trans (hb5.mono HFI.out.size)⟩
        · have q1 : (kd == 8) = false := by simpa using h8
          have q2 : (kd != 8) = true := by simpa using h8
          have q3 : decide (kd = 8) = false := by simpa using h8
          have hst' : rrightsB kd (List.take j l) = true → rrightsB kd (List.take (j + 1) l) = (!bl && rk) := fun h => (HST.out h).trans (by simp [h8])
          have hno' : (!bl && rk) = false → rrightsB kd l = false := fun h => HNO.out (by rw [q3, decide_eq_true h8]; simpa using h)
          have HST2 := Lib.hid hst'
          have HNO2 := Lib.hid hno'
          clear h8 hst' hno'
          cases bl <;> cases rk
          all_goals
            go_wp2
            refine wp_region_quiet_below (by kernel_rfl) (by kernel_rfl) ?_
            repeat (first
              | (go_big_quiet_want; refine quiet_mid 35 _ rfl b2 (o2 + j * 22) rfl cs _ HRG.out undN rfl hcl'.out ?_; simp only [Act.put, List.setIfInBounds_toArray, List.set_cons_zero, List.set_cons_succ]; go_big_quiet_on)
              | go_big_quiet_step (first | with_reducible exact HBL.out _ _ | with_reducible exact HKI.out _ _))
            refine wpQuiet_nil ?_
            rintro w4 ⟨⟨dq, osq⟩, hq4⟩
            have hb5 : Below wr.heap.size wr w4 := by rw [hq4]; exact below_regrown wr dq osq
            clear hq4
            go_wp2
          · go_ret
            exact ⟨ret_bool (by rw [HR2.out]; exact (HNO2.out rfl).symm), HFI.out.trans (hb5.mono HFI.out.size)⟩
          · go_roundw
            case rel => exact ⟨j + 1, by omega, by go_num, Lib.hid (HST2.out hacc.out), Lib.hid (hbr.out.trans (hb5.mono hbr.out.size))⟩
            case measure => simp [intOf]; omega
          · go_ret
            exact ⟨ret_bool (by rw [HR2.out]; exact (HNO2.out rfl).symm), HFI.out.trans (hb5.mono HFI.out.size)⟩
          · go_ret
            exact ⟨ret_bool (by rw [HR2.out]; exact (HNO2.out rfl).symm), HFI.out.trans (hb5.mono HFI.out.size)⟩
      · obtain rfl : j = n := by omega
        clear hc0 
        go_wp2
        go_ret
        exact ⟨ret_bool (by rw [HR2.out, ← hacc.out, ← HN.out, List.take_length]), HFI.out⟩
end Go.Proofs.YtbiacjkkgddclaaGreat
