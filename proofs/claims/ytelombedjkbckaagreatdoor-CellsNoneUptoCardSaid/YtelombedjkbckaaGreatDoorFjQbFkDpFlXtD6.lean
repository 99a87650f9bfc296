/- counterpaneref06.right: the plain law. Regions that draw their order, whose operations read and whose callees make memory alone: loads of whole rows in such a walk. No program in sight. counterpaneref06.own, right, Check. The reference's Depth. counterpaneref06.Check. The reference's Right of a content. The reference's Is; its Put into a row without cells. -/
import Derived.Test.YtelombedjkbckaaGreatDoorFhTz0Cu
import Derived.Test.YtelombedjkbckaaGreatDoorFdM
import Derived.Test.YtelombedjkbckaaGreatDoorRiCkXbNwPyPmPnPfMg
import Derived.Test.YtelombedjkbckaaGreatDoorNdSrRFWkSz
import Derived.Lib.QuietBelow
import Derived.BigQuiet
import Derived.Test.YtelombedjkbckaaGreatDoorFi4M
import Derived.Test.YtelombedjkbckaaGreatDoorFi8M
import Derived.Test.YtelombedjkbckaaGreatDoorFi9M
import Derived.Test.YtelombedjkbckaaGreatDoorCpCvOvCwBuCxNo
import Derived.Test.YtelombedjkbckaaGreatDoorXhXiGtXmHc
import Derived.Test.YtelombedjkbckaaGreatDoorXsM
import Derived.Test.YtelombedjkbckaaGreatDoorXnKzOiC8C9Xa1D1D5
import Derived.Test.YtelombedjkbckaaGreatDoorC2RnC3C4C5SlC7
namespace Go.Proofs.YtelombedjkbckaaGreatDoor
open Go.RowKit Go.Shelf

/-- is a node right, but for those below it? -/
def rownB (d : ND) (n : Nat) (k0 : Int) : Bool :=
 if d.kind = 0 then litB d.v && decide (n = 0) && decide ({ zeroND with v := d.v, kind := d.kind } = d)
 else if d.kind = 1 ∨ d.kind = 3 then d.a.row && d.a.col && decide (n = 0) && decide ({ zeroND with a := d.a, kind := d.kind } = d)
 else if d.kind = 2 then rangeB d.a d.b && decide (n = 0) && decide ({ zeroND with a := d.a, b := d.b, kind := d.kind } = d)
 else if d.kind = 4 then isCallB d.name && decide (n ≤ 32) && !decide (n = 1 ∧ k0 = 9) && decide ({ zeroND with name := d.name, kind := d.kind } = d)
 else if d.kind = 5 then unaryB d.name && decide (n = 1) && decide ({ zeroND with name := d.name, kind := d.kind } = d)
 else if d.kind = 6 then binaryB d.name && decide (n = 2) && decide ({ zeroND with name := d.name, kind := d.kind } = d)
 else if d.kind = 7 then isNameB d.name && decide (n = 0) && decide ({ zeroND with name := d.name, kind := d.kind } = d)
 else if d.kind = 8 then decide (1 ≤ d.rows) && decide (1 ≤ n) && decide ((n : Int) % d.rows = 0) && decide ({ zeroND with rows := d.rows, kind := d.kind } = d)
 else if d.kind = 9 then decide (n = 0) && decide ({ zeroND with kind := d.kind } = d)
 else false
mutual
def rrightB : Tr → Bool → Bool
 | .mk d l, call => rownB d l.length (kind0 l) && (decide (d.kind ≠ 9) || call) && rrightsB d.kind l
def rrightsB (k : Int) : List Tr → Bool
 | [] => true
 | t :: ts => (!(decide (k = 8) && decide (t.d.kind ≠ 0)) && !(decide (k ≠ 8) && belowB t.d) && rrightB t (decide (k = 4))) && rrightsB k ts
end
theorem rrights_append (k : Int) : ∀ (l m : List Tr), rrightsB k (l ++ m) = (rrightsB k l && rrightsB k m)
 | [], m => by simp [rrightsB]
 | t :: l, m => by simp only [List.cons_append, rrightsB, rrights_append k l m, Bool.and_assoc]
theorem nd_comm (a b : ND) : decide (a = b) = decide (b = a) := decide_eq_decide.2 eq_comm
theorem dec_and (p q : Prop) [Decidable p] [Decidable q] : decide (p ∧ q) = (decide q && decide p) := by rw [Bool.decide_and, Bool.and_comm]

/-- own: of the two, where a node stands below one of that kind. -/
theorem own_rown (d : ND) (n : Nat) (k0 above : Int) : ownB d n k0 above = (rownB d n k0 && (decide (d.kind ≠ 9) || decide (above = 4)) && (decide (above = 8) || !belowB d)) := by
 obtain ⟨kind, v, name, a, q, rows⟩ := d
 unfold ownB rownB
 dsimp only
 by_cases k0' : kind = 0
 · subst k0'
   rw [if_pos rfl, if_pos rfl, dec_and, nd_comm]
   have hbl : belowB ⟨0, v, name, a, q, rows⟩ = (decide (v.k = 1) && decide (v.mant < 0)) := by unfold belowB; simp
   rw [hbl, show decide ((0 : Int) ≠ 9) = true from rfl]
   unfold litRight litB
   have hb : (decide (v.k ≠ 0) && valRight v) = true → v.mant < 0 → v.k = 1 := by
    intro h hm
    unfold valRight at h
    rw [Bool.and_eq_true, decide_eq_true_eq] at h
    obtain ⟨h0, h⟩ := h
    rw [if_neg h0] at h
    by_cases h1 : v.k = 1
    · exact h1
    rw [if_neg h1] at h
    exfalso
    by_cases h2 : v.k = 2
    · rw [if_pos h2] at h
      have h := of_decide_eq_true h
      unfold textV badV at h
      split at h <;> (have := congrArg Vl.mant h; dsimp only at this; omega)
    rw [if_neg h2] at h
    by_cases h3 : v.k = 3
    · rw [if_pos h3] at h
      have h := of_decide_eq_true h
      unfold truthV at h
      have := congrArg Vl.mant h; dsimp only at this; omega
    rw [if_neg h3] at h
    by_cases h4 : v.k = 4
    · rw [if_pos h4] at h
      have h := of_decide_eq_true h
      unfold badV at h
      have := congrArg Vl.mant h; dsimp only at this; omega
    rw [if_neg h4] at h
    cases h
   have key : ((decide (v.k ≠ 0) && valRight v) && (decide (above = 8) || decide (0 ≤ v.mant))) = ((decide (v.k ≠ 0) && valRight v) && (decide (above = 8) || !(decide (v.k = 1) && decide (v.mant < 0)))) := by
    cases hlv : (decide (v.k ≠ 0) && valRight v)
    · rfl
    · have hb' := hb hlv
      by_cases hm : v.mant < 0
      · rw [decide_eq_true (hb' hm), decide_eq_true hm, decide_eq_false (p := 0 ≤ v.mant) (by omega)]; rfl
      · rw [decide_eq_false (p := v.mant < 0) hm, decide_eq_true (p := 0 ≤ v.mant) (by omega)]; simp
   rw [key]
   generalize (decide (v.k ≠ 0) && valRight v) = x1
   generalize (decide (above = 8) || !(decide (v.k = 1) && decide (v.mant < 0))) = x2
   generalize decide (n = 0) = x3
   generalize decide (above = 4) = x4
   generalize decide (({ zeroND with v := v, kind := 0 } : ND) = ⟨0, v, name, a, q, rows⟩) = x5
   cases x1 <;> cases x2 <;> cases x3 <;> cases x4 <;> cases x5 <;> rfl
 rw [if_neg k0', if_neg k0']
 have hbel : belowB ⟨kind, v, name, a, q, rows⟩ = false := by unfold belowB; simp [k0']
 rw [hbel]
 simp only [Bool.not_false, Bool.or_true, Bool.and_true]
 by_cases k1 : kind = 1 ∨ kind = 3
 · rw [if_pos k1, if_pos k1, dec_and, nd_comm, decide_eq_true (p := kind ≠ 9) (by omega)]
   simp only [Bool.true_or, Bool.and_true, Bool.and_assoc]
 rw [if_neg k1, if_neg k1]
 by_cases k2 : kind = 2
 · rw [if_pos k2, if_pos k2, dec_and, nd_comm, decide_eq_true (p := kind ≠ 9) (by omega)]
   simp only [Bool.true_or, Bool.and_true, Bool.and_assoc]
 rw [if_neg k2, if_neg k2]
 by_cases k4 : kind = 4
 · rw [if_pos k4, if_pos k4, nd_comm, decide_eq_true (p := kind ≠ 9) (by omega)]
   simp only [Bool.true_or, Bool.and_true, Bool.and_assoc]
 rw [if_neg k4, if_neg k4]
 by_cases k5 : kind = 5
 · rw [if_pos k5, if_pos k5, nd_comm, decide_eq_true (p := kind ≠ 9) (by omega)]
   simp only [Bool.true_or, Bool.and_true, Bool.and_assoc]
 rw [if_neg k5, if_neg k5]
 by_cases k6 : kind = 6
 · rw [if_pos k6, if_pos k6, nd_comm, decide_eq_true (p := kind ≠ 9) (by omega)]
   simp only [Bool.true_or, Bool.and_true, Bool.and_assoc]
 rw [if_neg k6, if_neg k6]
 by_cases k7 : kind = 7
 · rw [if_pos k7, if_pos k7, dec_and, nd_comm, decide_eq_true (p := kind ≠ 9) (by omega)]
   simp only [Bool.true_or, Bool.and_true, Bool.and_assoc]
 rw [if_neg k7, if_neg k7]
 by_cases k8 : kind = 8
 · rw [if_pos k8, if_pos k8, nd_comm, decide_eq_true (p := kind ≠ 9) (by omega)]
   simp only [Bool.true_or, Bool.and_true, Bool.and_assoc]
 rw [if_neg k8, if_neg k8]
 by_cases k9 : kind = 9
 · rw [if_pos k9, if_pos k9, dec_and, nd_comm, decide_eq_false (p := kind ≠ 9) (by omega)]
   simp only [Bool.false_or]
   rw [Bool.and_comm]
 rw [if_neg k9, if_neg k9]
 rfl
theorem right_rright (t : Tr) : ∀ above : Int, rightB t above = (rrightB t (decide (above = 4)) && (decide (above = 8) || !belowB t.d)) := by
 induction t using Tr.ind with
 | _ d l ih =>
  intro above
  have hl : rightsB d.kind l = rrightsB d.kind l := by
   induction l with
   | nil => rfl
   | cons t ts ih2 =>
    simp only [rightsB, rrightsB]
    rw [ih2 (fun t' h => ih t' (by simp [h])), ih t (by simp) d.kind]
    congr 1
    by_cases h8 : d.kind = 8
    · simp [h8]
    · simp [h8, Bool.and_comm]
  simp only [rightB, rrightB, Tr.d]
  rw [own_rown, hl]
  generalize rownB d l.length (kind0 l) = x1
  generalize rrightsB d.kind l = x2
  generalize (decide (d.kind ≠ 9) || decide (above = 4)) = x3
  generalize (decide (above = 8) || !belowB d) = x4
  cases x1 <;> cases x2 <;> cases x3 <;> cases x4 <;> rfl
def rcheckI (t : Tr) : Int := if 256 < t.size then 5 else if 32 < t.depth then 8 else if belowB t.d = true ∨ rrightB t false = false then 6 else 0
theorem rcheck_eq (t : Tr) : rcheckI t = checkI t := by
 unfold rcheckI checkI
 split
 · rfl
 split
 · rfl
 rw [right_rright]
 have e1 : decide ((6 : Int) = 4) = false := by decide
 have e2 : decide ((6 : Int) = 8) = false := by decide
 rw [e1, e2]
 cases rrightB t false <;> cases belowB t.d <;> simp
end Go.Proofs.YtelombedjkbckaaGreatDoor
namespace Go.Proofs.YtelombedjkbckaaGreatDoor
open Go.RowKit Go.Sort

theorem range_regrown {w : World} {b o : Nat} {cs : List Value} (h : w.rangeAt b o cs) (d : Nat) (os : Array Obj) : (grow (redrawn w d) os).rangeAt b o cs :=
 fun j v hv => cell_regrown (h j v hv) d os
/-- a row in the midst of a block is read. -/
theorem quiet_mid {P : Program} {a : Act} {w : World} {o : Oper} {K : Act → Prop} (ty : TypeId) (x : Operand) (ho : o.op = .load ty x)
    (b off : Nat) (hx : a.eval x = .pointer (some ⟨b, off, none⟩)) (cs : List Value) (d : TypeDesc) (hc : w.rangeAt b off cs)
    (hu : P.underlying ty = some d) (hd : d.isRow = true) (hi : (P.info? ty).map (·.size) = some cs.length)
    (hk : K (a.put o.dst (.agg cs.toArray))) : o.quiet P a (fun w' => ∃ p : Regrown, w' = grow (redrawn w p.d) p.os) K := by
 refine ⟨.agg cs.toArray, fun w' hw' => ?_, hk⟩
 obtain ⟨p, rfl⟩ := hw'
 unfold Oper.quietAt execOp
 simp only [ho, hx, Instr.loadAt, Instr.sureAddr, Sem.run_bind, Sem.run_pure, Result.andThen_ok, run_loadVar_mid _ b off ty cs d (range_regrown hc p.d p.os) hu hd hi]
 exact ⟨rfl, rfl⟩
end Go.Proofs.YtelombedjkbckaaGreatDoor
namespace Go.Proofs.YtelombedjkbckaaGreatDoor
open Go.RowKit Go.Shelf Go.Sort Go.BigFrame

theorem rown_any (w : World) (B : Nat) (d : ND) (l : List Tr) (A : Option Addr) (c : Nat) (hd : d.ok) (hs : SlAt w B A c l) (hB : B ≤ w.heap.size) :
    Calls Tryz.prog 96 #[nodeV d A l.length c] w fun e w' => e = .returned (.bool (rownB d l.length (kind0 l))) ∧ Below w.heap.size w w' := by
 have hs' := hs.more hB
 have hk0 : l.length = 1 → ∃ kb ko, A = some ⟨kb, ko, none⟩ ∧ kb < w.heap.size ∧ w.cell? ⟨kb, ko, none⟩ = some (.int .i64 (kind0 l)) := by
  intro h1
  obtain ⟨b, o, hA, hn⟩ := hs'.at_ 0 (by omega)
  obtain ⟨hb, _, A2, c2, hc, _⟩ := hn.open_
  refine ⟨b, o, hA, hb, ?_⟩
  have := hc.all.1
  rw [Nat.zero_mul, Nat.add_zero] at this
  rw [this]
  match l, h1 with
  | [t], _ => rfl
 obtain ⟨kind, v, name, a, q, rows⟩ := d
 obtain ⟨h1, h2, h3, h4, h5, h6⟩ := id hd
 have z0 : i64 0 := by unfold i64; omega
 have zc : zeroCn.ok := ⟨z0, z0, z0, z0⟩
 have zv : zeroV.ok := ⟨z0, z0, z0, by decide, z0⟩
 have zn : noBytes.size ≤ 9223372036854775807 := by decide
 unfold rownB
 dsimp only at h1 h2 h3 h4 h5 h6 ⊢
 by_cases k0 : kind = 0
 · subst k0
   rw [if_pos rfl]
   exact rown0 w v name a q rows A l.length c _ hd (own_sameF w _ _ l A c hd ⟨h1, h2, zn, zc, zc, z0⟩ hs')
 rw [if_neg k0]
 by_cases k1 : kind = 1
 · subst k1
   rw [if_pos (.inl rfl)]
   exact rown1 w v name a q rows A l.length c _ hd (own_sameF w _ _ l A c hd ⟨h1, zv, zn, h4, zc, z0⟩ hs')
 by_cases k3 : kind = 3
 · subst k3
   rw [if_pos (.inr rfl)]
   exact rown3 w v name a q rows A l.length c _ hd (own_sameF w _ _ l A c hd ⟨h1, zv, zn, h4, zc, z0⟩ hs')
 rw [if_neg (by omega)]
 by_cases k2 : kind = 2
 · subst k2
   rw [if_pos rfl]
   exact rown2 w v name a q rows A l.length c _ hd (own_sameF w _ _ l A c hd ⟨h1, zv, zn, h4, h5, z0⟩ hs')
 rw [if_neg k2]
 by_cases k4 : kind = 4
 · subst k4
   rw [if_pos rfl]
   exact rown4 w v name a q rows A l.length c _ hd (kind0 l) hk0 (own_sameF w _ _ l A c hd ⟨h1, zv, h3, zc, zc, z0⟩ hs')
 rw [if_neg k4]
 by_cases k5 : kind = 5
 · subst k5
   rw [if_pos rfl]
   exact rown5 w v name a q rows A l.length c _ hd (own_sameF w _ _ l A c hd ⟨h1, zv, h3, zc, zc, z0⟩ hs')
 rw [if_neg k5]
 by_cases k6 : kind = 6
 · subst k6
   rw [if_pos rfl]
   exact rown6 w v name a q rows A l.length c _ hd (own_sameF w _ _ l A c hd ⟨h1, zv, h3, zc, zc, z0⟩ hs')
 rw [if_neg k6]
 by_cases k7 : kind = 7
 · subst k7
   rw [if_pos rfl]
   exact rown7 w v name a q rows A l.length c _ hd (own_sameF w _ _ l A c hd ⟨h1, zv, h3, zc, zc, z0⟩ hs')
 rw [if_neg k7]
 by_cases k8 : kind = 8
 · subst k8
   rw [if_pos rfl]
   exact rown8 w v name a q rows A l.length c _ hd (own_sameF w _ _ l A c hd ⟨h1, zv, zn, zc, zc, h6⟩ hs')
 rw [if_neg k8]
 by_cases k9 : kind = 9
 · subst k9
   rw [if_pos rfl]
   exact rown9 w v name a q rows A l.length c _ hd (own_sameF w _ _ l A c hd ⟨h1, zv, zn, zc, zc, z0⟩ hs')
 rw [if_neg k9]
 exact rown10 w kind _ rfl A l.length c rfl (by omega)

theorem rrights_step {k : Int} {l : List Tr} {i : Nat} (hi : i < l.length) (h : rrightsB k (l.take i) = true) : rrightsB k (l.take (i + 1)) = (!(decide (k = 8) && decide (l[i].d.kind ≠ 0)) && !(decide (k ≠ 8) && belowB l[i].d) && rrightB l[i] (decide (k = 4))) := by
 rw [List.take_succ_eq_append_getElem hi, rrights_append, h]; simp [rrightsB]
theorem rrights_no {k : Int} {l : List Tr} {i : Nat} (hi : i < l.length) (h : (!(decide (k = 8) && decide (l[i].d.kind ≠ 0)) && !(decide (k ≠ 8) && belowB l[i].d) && rrightB l[i] (decide (k = 4))) = false) : rrightsB k l = false := by
 rw [← List.take_append_drop i l, rrights_append, List.drop_eq_getElem_cons hi]
 simp only [rrightsB, h, Bool.false_and, Bool.and_false]

set_option maxRecDepth 100000 in
set_option maxHeartbeats 4000000 in
theorem rright_c (t : Tr) : ∀ (w : World) (B : Nat) (A : Option Addr) (c : Nat) (call : Bool) (_ : t.d.ok) (_ : SlAt w B A c t.l) (_ : B ≤ w.heap.size),
    Calls Tryz.prog 71 #[nodeV t.d A t.l.length c, .bool call] w fun e w' => e = .returned (.bool (rrightB t call)) ∧ Below w.heap.size w w' := by
 induction t using Tr.ind with | _ d l ih => ?_
 intro w B A c call hd hs hB
 have IH := Jh ih
 have HS := Jh hs
 dsimp only [Tr.d, Tr.l] at HS hd hs ⊢
 have hO := fun wx (hx : Below w.heap.size w wx) => rown_any wx B d l A c hd (hs.below (hx.mono hB)) (by have := hx.size; omega)
 clear ih hs hd
 obtain ⟨r, hr⟩ : ∃ r, rrightB (.mk d l) call = r := ⟨_, rfl⟩
 rw [hr]
 simp only [rrightB] at hr
 obtain ⟨n, hn⟩ : ∃ n, l.length = n := ⟨_, rfl⟩
 obtain ⟨N, hN⟩ : ∃ N, N = nodeA d A n c := ⟨_, rfl⟩
 rw [hn] at hr hO
 simp only [nodeV, hn, ← hN] at hO ⊢
 have hsl := HS.out.1
 have hsc := HS.out.2.1
 rw [hn] at hsl
 have hN21 : N[21]? = some (.slice A n c) := by rw [hN]; rfl
 obtain ⟨kd, hkd⟩ : ∃ kd, d.kind = kd := ⟨_, rfl⟩
 have hN0 : N[0]? = some (.int .i64 kd) := by rw [hN, ← hkd]; rfl
 have hNs : N.size = 22 := by rw [hN]; rfl
 have hinf := infN
 rw [← hNs] at hinf
 rw [hkd] at hr
 obtain ⟨W, hW⟩ : ∃ W, W = w.alloc (.cells N 41) := ⟨_, rfl⟩
 have hbW : Below w.heap.size w W := by rw [hW]; exact (Below.refl _ w).alloc (Nat.le_refl _) _
 have hsz : w.heap.size + 1 = W.heap.size := by rw [hW]; simp
 have hkW : W.heap[w.heap.size]? = some (.cells N 41) := by rw [hW]; exact World.alloc_heap_new w _
 have haft : ∀ wx, Below W.heap.size W wx → Below w.heap.size w wx ∧ wx.cell? ⟨w.heap.size, 0, none⟩ = some (.int .i64 kd) ∧ wx.cell? ⟨w.heap.size, 21, none⟩ = some (.slice A n c) := fun wx hx => by
  have hk : wx.heap[w.heap.size]? = some (.cells N 41) := (hx.block _ (by omega)).trans hkW
  exact ⟨hbW.trans (hx.mono (by omega)), by rw [Lib.cell_of_heap hk]; exact hN0, by rw [Lib.cell_of_heap hk]; exact hN21⟩
 obtain ⟨r0, hr0⟩ : ∃ r0, rownB d n (kind0 l) = r0 := ⟨_, rfl⟩
 rw [hr0] at hO hr
 have HO := Jh hO
 have HR := Jh hr
 have HN := Jh hn
 have HIN := Jh hinf
 have HW := Jh hW
 have HA := Jh haft
 have HKW := Jh hkW
 have HBW := Jh hbW
 clear hO hr hn hN hinf hW haft hkW hbW hN21 hN0 hNs hr0 hkd hsz
 cases r0
 · go_enter Tryz.func71, Tryz.ntmps71
   go_upto_region 1 with (fail)
   (try simp only [Act.put, List.setIfInBounds_toArray, List.set_cons_zero, List.set_cons_succ])
   rw [← HW.out]
   go_wp2_with (first | (refine wpList_row rfl 41 _ rfl w.heap.size rfl 41 N (0, 0) _ HKW.out undN rfl HIN.out ?_) | (go_at_call 96; refine (HO.out _ HBW.out).mono ?_; rintro e w2 ⟨rfl, hbe⟩))
   go_ret
   exact ⟨ret_bool (by rw [← HR.out]; rfl), HBW.out.trans (hbe.mono HBW.out.size)⟩
 by_cases h9 : kd = 9 ∧ call = false
 · obtain ⟨rfl, rfl⟩ := h9
   go_enter Tryz.func71, Tryz.ntmps71
   go_upto_region 1 with (fail)
   (try simp only [Act.put, List.setIfInBounds_toArray, List.set_cons_zero, List.set_cons_succ])
   rw [← HW.out]
   go_wp2_with (first | (refine wpList_row rfl 41 _ rfl w.heap.size rfl 41 N (0, 0) _ HKW.out undN rfl HIN.out ?_) | (go_at_call 96; refine (HO.out _ HBW.out).mono ?_; rintro e w2 ⟨rfl, hbe⟩; obtain ⟨hb2, hc0, hc21⟩ := HA.out w2 hbe))
   go_ret
   exact ⟨ret_bool (by rw [← HR.out]; rfl), hb2⟩
 have hr2 : r = rrightsB kd l := by
  rw [← HR.out]
  by_cases h : kd = 9
  · have hc : call = true := by cases call with | true => rfl | false => exact absurd ⟨h, rfl⟩ h9
    rw [hc]; simp
  · simp [h]
 have HR2 := Jh hr2
 clear HR hr2
 obtain ⟨b9, hb9⟩ : ∃ b, (kd == 9) = b := ⟨_, rfl⟩
 have hb9' : decide (kd = 9) = b9 := by rw [← hb9]; rfl
 have hcall : b9 = true → call = true := by
  intro h
  rw [h] at hb9
  have h9' : kd = 9 := by simpa using hb9
  cases call with | true => rfl | false => exact absurd ⟨h9', rfl⟩ h9
 clear h9
 have HX := Jh hcall
 clear hcall
 cases b9
 case' true =>
  obtain rfl := HX.out rfl
 all_goals clear HX
 all_goals
  go_enter Tryz.func71, Tryz.ntmps71
  go_upto_region 1 with (fail)
  (try simp only [Act.put, List.setIfInBounds_toArray, List.set_cons_zero, List.set_cons_succ])
  rw [← HW.out]
  go_wp2_with (first | (refine wpList_row rfl 41 _ rfl w.heap.size rfl 41 N (0, 0) _ HKW.out undN rfl HIN.out ?_) | (go_at_call 96; refine (HO.out _ HBW.out).mono ?_; rintro e w2 ⟨rfl, hbe⟩; obtain ⟨hb2, hc0, hc21⟩ := HA.out w2 hbe))
  clear hb9 hb9' hc0 hc21 hb2
  have HBE := Jh hbe
  clear hbe
  go_loopw [5] (fun i wr => ∃ j : Nat, j ≤ n ∧ i = .int .i64 j ∧ Hid (rrightsB kd (l.take j) = true) ∧ Hid (Below W.heap.size W wr)) (fun i _ => n - (intOf i).toNat)
  case atStart => exact ⟨0, Nat.zero_le _, rfl, Jh (by simp [rrightsB]), HBE⟩
  case round =>
   obtain ⟨j, hj, rfl, hacc, hbr⟩ := hrel
   obtain ⟨hfin, hc0, hc21⟩ := HA.out wr hbr.out
   have HFI := Jh hfin
   by_cases hlt : j < n
   · have hjl : j < l.length := by rw [HN.out]; exact hlt
     obtain ⟨b2, o2, hA, hkn⟩ := HS.out.at_ j hjl
     subst hA
     obtain ⟨hkb, hkdok, A2, c2, hkc, hks⟩ := hkn.open_
     have hkid := fun wx (hx : Below w.heap.size w wx) => IH.out l[j] (List.getElem_mem hjl) wx B A2 c2 (decide (kd = 4)) hkdok (hks.below (hx.mono hB)) (by have := hx.size; omega)
     have hbel := fun wx => rbelow_any wx l[j].d A2 l[j].l.length c2
     obtain ⟨cs, hcs, hcl, hrg⟩ := hkc.range (w' := wr) (fun p hp => hfin.cell (by omega))
     have hkk : wr.cell? ⟨b2, o2 + j * 22, none⟩ = some (.int .i64 l[j].d.kind) := (hfin.cell (p := ⟨b2, o2 + j * 22, none⟩) (by show b2 < _; omega)).trans hkc.all.1
     simp only [nodeV, ← hcs] at hkid hbel
     obtain ⟨kk, hkke⟩ : ∃ kk, l[j].d.kind = kk := ⟨_, rfl⟩
     have hstep := fun h => rrights_step (k := kd) hjl h
     have hno := fun h => rrights_no (k := kd) hjl h
     rw [hkke] at hkk hstep hno
     obtain ⟨bl, hbl⟩ : ∃ b, belowB l[j].d = b := ⟨_, rfl⟩
     obtain ⟨rk, hrk⟩ : ∃ b, rrightB l[j] (decide (kd = 4)) = b := ⟨_, rfl⟩
     rw [hbl] at hbel hstep hno
     rw [hrk] at hkid hstep hno
     obtain ⟨b4, hb4⟩ : ∃ b, decide (kd = 4) = b := ⟨_, rfl⟩
     rw [hb4] at hkid
     have hb4' : (kd == 4) = b4 := by rw [← hb4]; rfl
     have hq0 : ∀ d os, (grow (redrawn wr d) os).cell? ⟨w.heap.size, 0, none⟩ = some (.int .i64 kd) := fun d os => cell_regrown hc0 d os
     have hq21 : ∀ d os, (grow (redrawn wr d) os).cell? ⟨w.heap.size, 21, none⟩ = some (.slice (some ⟨b2, o2, none⟩) n c) := fun d os => cell_regrown hc21 d os
     have hqk : ∀ d os, (grow (redrawn wr d) os).cell? ⟨b2, o2 + j * 22, none⟩ = some (.int .i64 kk) := fun d os => cell_regrown hkk d os
     have hkid' : ∀ d os, Calls Tryz.prog 71 #[.agg cs.toArray, .bool b4] (grow (redrawn wr d) os) fun e w'' => e = .returned (.bool rk) ∧ ∃ p : Regrown, w'' = grow (redrawn wr p.d) p.os := fun d os =>
      Calls.regrown_of (hkid _ (hfin.trans ((below_regrown wr d os).mono hfin.size)))
     have hbel' : ∀ d os, Calls Tryz.prog 70 #[.agg cs.toArray] (grow (redrawn wr d) os) fun e w'' => e = .returned (.bool bl) ∧ ∃ p : Regrown, w'' = grow (redrawn wr p.d) p.os := fun d os =>
      Calls.regrown_of (hbel _)
     have HKI := Jh hkid'
     have HBL := Jh hbel'
     have HRG := Jh hrg
     have HST := Jh hstep
     have HNO := Jh hno
     have hcl' : Hid ((Tryz.prog.info? 41).map (·.size) = some cs.length) := Jh (by rw [hcl]; exact infN)
     have hj1 : (j : Int) < (n : Int) := by omega
     have hj0 : (0 : Int) ≤ (j : Int) := by omega
     clear hkn hkb hkdok hkc hks hkid hkid' hbel hbel' hrg hcs hcl hkke hstep hno hbl hrk hfin hkk
     by_cases h8 : kd = 8
     · subst h8
       by_cases hk0 : kk = 0
       · subst hk0
         cases rk
         all_goals
          go_wp2
          refine wp_region_quiet_below (by kernel_rfl) (by kernel_rfl) ?_
          repeat (first
           | (go_big_quiet_want; refine quiet_mid 41 _ rfl b2 (o2 + j * 22) rfl cs _ HRG.out undN rfl hcl'.out ?_; simp only [Act.put, List.setIfInBounds_toArray, List.set_cons_zero, List.set_cons_succ]; go_big_quiet_on)
           | go_big_quiet_step (first | with_reducible exact HBL.out _ _ | with_reducible exact HKI.out _ _))
          refine wpQuiet_nil ?_
          rintro w4 ⟨⟨dq, osq⟩, hq4⟩
          have hb5 : Below wr.heap.size wr w4 := by rw [hq4]; exact below_regrown wr dq osq
          clear hq4
          go_wp2
         · go_ret
           exact ⟨ret_bool (by rw [HR2.out]; exact (HNO.out (by simp)).symm), HFI.out.trans (hb5.mono HFI.out.size)⟩
         · go_roundw
           case rel => exact ⟨j + 1, by omega, by go_num, Jh ((HST.out hacc.out).trans (by simp)), Jh (hbr.out.trans (hb5.mono hbr.out.size))⟩
           case measure => simp [intOf]; omega
       · have q1 : (kk != 0) = true := by simpa using hk0
         have q2 : decide (kk = 0) = false := by simpa using hk0
         have hno' := HNO.out (by simp [hk0])
         have HNN := Jh hno'
         clear hk0 hno'
         go_wp2
         refine wp_region_quiet_below (by kernel_rfl) (by kernel_rfl) ?_
         repeat (first
          | (go_big_quiet_want; refine quiet_mid 41 _ rfl b2 (o2 + j * 22) rfl cs _ HRG.out undN rfl hcl'.out ?_; simp only [Act.put, List.setIfInBounds_toArray, List.set_cons_zero, List.set_cons_succ]; go_big_quiet_on)
          | go_big_quiet_step (first | with_reducible exact HBL.out _ _ | with_reducible exact HKI.out _ _))
         refine wpQuiet_nil ?_
         rintro w4 ⟨⟨dq, osq⟩, hq4⟩
         have hb5 : Below wr.heap.size wr w4 := by rw [hq4]; exact below_regrown wr dq osq
         clear hq4
         go_wp2
         go_ret
         exact ⟨ret_bool (by rw [HR2.out]; exact HNN.out.symm), HFI.out.trans (hb5.mono HFI.out.size)⟩
     · have q1 : (kd == 8) = false := by simpa using h8
       have q2 : (kd != 8) = true := by simpa using h8
       have q3 : decide (kd = 8) = false := by simpa using h8
       have hst' : rrightsB kd (List.take j l) = true → rrightsB kd (List.take (j + 1) l) = (!bl && rk) := fun h => (HST.out h).trans (by simp [h8])
       have hno' : (!bl && rk) = false → rrightsB kd l = false := fun h => HNO.out (by rw [q3, decide_eq_true h8]; simpa using h)
       have HST2 := Jh hst'
       have HNO2 := Jh hno'
       clear h8 hst' hno'
       cases bl <;> cases rk
       all_goals
        go_wp2
        refine wp_region_quiet_below (by kernel_rfl) (by kernel_rfl) ?_
        repeat (first
         | (go_big_quiet_want; refine quiet_mid 41 _ rfl b2 (o2 + j * 22) rfl cs _ HRG.out undN rfl hcl'.out ?_; simp only [Act.put, List.setIfInBounds_toArray, List.set_cons_zero, List.set_cons_succ]; go_big_quiet_on)
         | go_big_quiet_step (first | with_reducible exact HBL.out _ _ | with_reducible exact HKI.out _ _))
        refine wpQuiet_nil ?_
        rintro w4 ⟨⟨dq, osq⟩, hq4⟩
        have hb5 : Below wr.heap.size wr w4 := by rw [hq4]; exact below_regrown wr dq osq
        clear hq4
        go_wp2
       · go_ret
         exact ⟨ret_bool (by rw [HR2.out]; exact (HNO2.out rfl).symm), HFI.out.trans (hb5.mono HFI.out.size)⟩
       · go_roundw
         case rel => exact ⟨j + 1, by omega, by go_num, Jh (HST2.out hacc.out), Jh (hbr.out.trans (hb5.mono hbr.out.size))⟩
         case measure => simp [intOf]; omega
       · go_ret
         exact ⟨ret_bool (by rw [HR2.out]; exact (HNO2.out rfl).symm), HFI.out.trans (hb5.mono HFI.out.size)⟩
       · go_ret
         exact ⟨ret_bool (by rw [HR2.out]; exact (HNO2.out rfl).symm), HFI.out.trans (hb5.mono HFI.out.size)⟩
   · obtain rfl : j = n := by omega
     clear hc0 
     go_wp2
     go_ret
     exact ⟨ret_bool (by rw [HR2.out, ← hacc.out, ← HN.out, List.take_length]), HFI.out⟩
end Go.Proofs.YtelombedjkbckaaGreatDoor
namespace Go.Proofs.YtelombedjkbckaaGreatDoor
open Go.RowKit Go.Shelf

theorem ret_int {k : IntKind} {a b : Int} (h : a = b) : Ending.returned (.int k a) = .returned (.int k b) := by rw [h]
theorem depths_append : ∀ (l m : List Tr), Tr.depths (l ++ m) = max (Tr.depths l) (Tr.depths m)
 | [], m => by simp [Tr.depths]
 | t :: l, m => by simp only [List.cons_append, Tr.depths, depths_append l m]; omega
theorem depths_step {l : List Tr} {i : Nat} (hi : i < l.length) : Tr.depths (l.take (i + 1)) = max (Tr.depths (l.take i)) l[i].depth := by
 rw [List.take_succ_eq_append_getElem hi, depths_append]; simp [Tr.depths]
theorem depth_le_size (t : Tr) : t.depth ≤ t.size := by
 induction t using Tr.ind with
 | _ d l ih =>
  simp only [Tr.depth, Tr.size]
  have : Tr.depths l ≤ Tr.sizes l := by
   induction l with
   | nil => simp [Tr.depths, Tr.sizes]
   | cons a l ih2 =>
    have h1 := ih a (by simp)
    have h2 := ih2 (fun t ht => ih t (by simp [ht]))
    simp only [Tr.depths, Tr.sizes]; omega
  omega
theorem depths_le_sizes (l : List Tr) : Tr.depths l ≤ Tr.sizes l := by
 induction l with
 | nil => simp [Tr.depths, Tr.sizes]
 | cons a l ih2 =>
  have h1 := depth_le_size a
  simp only [Tr.depths, Tr.sizes]; omega

set_option maxRecDepth 100000 in
set_option maxHeartbeats 2000000 in
theorem rdepth_c (t : Tr) : ∀ (w : World) (B : Nat) (A : Option Addr) (c : Nat) (_ : t.d.ok) (_ : SlAt w B A c t.l) (_ : B ≤ w.heap.size) (_ : t.size ≤ 1048576),
    Calls Tryz.prog 69 #[nodeV t.d A t.l.length c] w fun e w' => e = .returned (.int .i64 t.depth) ∧ Below w.heap.size w w' := by
 induction t using Tr.ind with | _ d l ih => ?_
 intro w B A c hd hs hB hsz
 have IH := Jh ih
 have HD := Jh hd
 have HS := Jh hs
 clear ih hd hs
 dsimp only [Tr.d, Tr.l] at HD HS ⊢
 obtain ⟨r, hr⟩ : ∃ r, Tr.depth (.mk d l) = r := ⟨_, rfl⟩
 rw [hr]
 simp only [Tr.depth] at hr
 obtain ⟨N, hN⟩ : ∃ N, N = nodeA d A l.length c := ⟨_, rfl⟩
 rw [nodeV, ← hN]
 have hN21 : N[21]? = some (.slice A l.length c) := by rw [hN]; rfl
 have HR := Jh hr
 have hsl := HS.out.1
 have hsc := HS.out.2.1
 obtain ⟨n, hn⟩ : ∃ n, l.length = n := ⟨_, rfl⟩
 rw [hn] at hN21 hsl
 have HN := Jh hn
 have hszl : Tr.sizes l + 1 ≤ 1048576 := by simpa [Tr.size] using hsz
 clear hr hN hn hsz
 have HN21 := Jh hN21
 clear hN21
 go_enter Tryz.func69, Tryz.ntmps69
 go_wp2
 obtain ⟨W, hW⟩ : ∃ W, w.alloc (.cells N 41) = W := ⟨_, rfl⟩
 have hc21 : W.cell? ⟨w.heap.size, 21, none⟩ = some (.slice A n c) := by rw [← hW]; exact (cell_of_row _ _ 21 _ _ _ (World.alloc_heap_new w _)).trans HN21.out
 have hbW : Below w.heap.size w W := by rw [← hW]; exact (Below.refl _ w).alloc (Nat.le_refl _) _
 have hzW : W.heap.size = w.heap.size + 1 := by rw [← hW]; simp
 rw [hW]
 have HZ := Jh hzW
 have HBW := Jh hbW
 have HC := Jh hc21
 clear hW hc21 hbW hzW
 go_loopw [3, 4] (fun v i wr => ∃ j : Nat, j ≤ n ∧ i = .int .i64 j ∧ v = .int .i64 (Tr.depths (l.take j) : Nat) ∧ Below W.heap.size W wr) (fun _ i _ => n - (intOf i).toNat)
 case atStart => exact ⟨0, Nat.zero_le _, rfl, by simp [Tr.depths], Below.refl _ _⟩
 case round =>
  obtain ⟨j, hj, rfl, rfl, hbr⟩ := hrel
  have hc : wr.cell? ⟨w.heap.size, 21, none⟩ = some (.slice A n c) := (hbr.cell (p := ⟨w.heap.size, 21, none⟩) (by have := HZ.out; simp; omega)).trans HC.out
  have hfin : Below w.heap.size w wr := HBW.out.trans (hbr.mono (by have := HZ.out; omega))
  have hdl : Tr.depths (l.take j) ≤ 1048576 := by
   have h1 := depths_le_sizes (l.take j)
   have h2 : Tr.sizes l = Tr.sizes (l.take j) + Tr.sizes (l.drop j) := by rw [← sizes_append, List.take_append_drop]
   omega
  by_cases hlt : j < n
  · have hjl : j < l.length := by rw [HN.out]; exact hlt
    have hst := sizes_take hjl
    obtain ⟨b2, o2, hA, hkn⟩ := HS.out.at_ j hjl
    subst hA
    obtain ⟨hkb, hkd, A2, c2, hkc, hks⟩ := hkn.open_
    have hkid := IH.out l[j] (List.getElem_mem hjl) wr B A2 c2 hkd (hks.below (hfin.mono hB)) (by have := hfin.size; omega) (by omega)
    obtain ⟨cs, hcs, hcl, hrg⟩ := hkc.range (w' := wr) (fun p hp => hfin.cell (by omega))
    rw [nodeV, ← hcs] at hkid
    have hinf := infN
    rw [← hcl] at hinf
    have hds := depths_step hjl
    obtain ⟨dk, hdk⟩ : ∃ dk, l[j].depth = dk := ⟨_, rfl⟩
    obtain ⟨dd, hdd⟩ : ∃ dd, Tr.depths (l.take j) = dd := ⟨_, rfl⟩
    rw [hdk] at hkid hds
    rw [hdd] at hds hdl ⊢
    have hdk2 : dk ≤ 1048576 := by rw [← hdk]; have := depth_le_size l[j]; omega
    have HRG := Jh hrg
    have HIN := Jh hinf
    have HK := Jh hkid
    have HDS := Jh hds
    have HWR := Jh hbr
    have hj1 : (j : Int) < (n : Int) := by omega
    have hj0 : (0 : Int) ≤ (j : Int) := by omega
    clear hinf hrg hcl hcs hkid hkn hkb hkd hkc hks hbr hfin hds hdk hdd hst
    go_wp2_with (first | (refine wpList_load_mid rfl 41 _ rfl b2 (o2 + j * 22) rfl cs _ HRG.out undN rfl HIN.out ?_) | go_at_call 69; refine HK.out.mono ?_; rintro e w2 ⟨rfl, hbe⟩)
    all_goals
     go_roundw
     case rel => exact ⟨j + 1, by omega, by go_num, by rw [HDS.out]; go_num, HWR.out.trans (hbe.mono HWR.out.size)⟩
     case measure => simp [intOf]; omega
  · obtain rfl : j = n := by omega
    obtain ⟨dd, hdd⟩ : ∃ dd, Tr.depths (l.take j) = dd := ⟨_, rfl⟩
    rw [hdd] at hdl ⊢
    have HDD := Jh hdd
    clear hdd
    go_wp2
    go_ret
    exact ⟨ret_int (by rw [← HR.out, ← HDD.out, ← HN.out, List.take_length]; omega), hfin⟩
end Go.Proofs.YtelombedjkbckaaGreatDoor
namespace Go.Proofs.YtelombedjkbckaaGreatDoor
open Go.RowKit Go.Shelf

set_option maxRecDepth 100000 in
set_option maxHeartbeats 2000000 in
theorem rcheck_c (t : Tr) (w : World) (B : Nat) (A : Option Addr) (c : Nat) (hd : t.d.ok) (hs : SlAt w B A c t.l) (hB : B ≤ w.heap.size) (hsz : t.size ≤ 1048576) :
    Calls Tryz.prog 45 #[nodeV t.d A t.l.length c] w fun e w' => e = .returned (.int .i64 (checkI t)) ∧ Below w.heap.size w w' := by
 rw [← rcheck_eq]
 have hN := fun wx (hx : Below w.heap.size w wx) => nodes_c t wx B A c hd (hs.below (hx.mono hB)) (by have := hx.size; omega) hsz
 have hD := fun wx (hx : Below w.heap.size w wx) => rdepth_c t wx B A c hd (hs.below (hx.mono hB)) (by have := hx.size; omega) hsz
 have hL := fun wx => rbelow_any wx t.d A t.l.length c
 have hR := fun wx (hx : Below w.heap.size w wx) => rright_c t wx B A c false hd (hs.below (hx.mono hB)) (by have := hx.size; omega)
 have hnl : t.nodes.length = t.size := nodes_len t
 obtain ⟨ts, hts⟩ : ∃ ts, t.nodes = ts := ⟨_, rfl⟩
 rw [hts] at hN hnl
 obtain ⟨N, hN0⟩ : ∃ N, N = nodeA t.d A t.l.length c := ⟨_, rfl⟩
 have hNs : N.size = 22 := by rw [hN0]; rfl
 simp only [nodeV, ← hN0] at hN hD hL hR ⊢
 have hdl : t.depth ≤ t.size := depth_le_size t
 obtain ⟨r, hr⟩ : ∃ r, r = rcheckI t := ⟨_, rfl⟩
 rw [← hr]
 unfold rcheckI at hr
 obtain ⟨sz, hsze⟩ : ∃ s, t.size = s := ⟨_, rfl⟩
 obtain ⟨dp, hdpe⟩ : ∃ s, t.depth = s := ⟨_, rfl⟩
 obtain ⟨bl, hble⟩ : ∃ s, belowB t.d = s := ⟨_, rfl⟩
 obtain ⟨rk, hrke⟩ : ∃ s, rrightB t false = s := ⟨_, rfl⟩
 rw [hsze] at hr hsz hdl
 rw [hsze] at hnl
 rw [hdpe] at hr hdl hD
 rw [hble] at hr hL
 rw [hrke] at hr hR
 have hinf := infN
 rw [← hNs] at hinf
 obtain ⟨W, hW⟩ : ∃ W, W = w.alloc (.cells N 41) := ⟨_, rfl⟩
 have hbW : Below w.heap.size w W := by rw [hW]; exact (Below.refl _ w).alloc (Nat.le_refl _) _
 have hkW : W.heap[w.heap.size]? = some (.cells N 41) := by rw [hW]; exact World.alloc_heap_new w _
 have hsW : w.heap.size + 1 = W.heap.size := by rw [hW]; simp
 have haft : ∀ wx, Below W.heap.size W wx → Below w.heap.size w wx ∧ wx.heap[w.heap.size]? = some (.cells N 41) := fun wx hx => ⟨hbW.trans (hx.mono (by omega)), (hx.block _ (by omega)).trans hkW⟩
 have HN := Jh hN
 have HNL := Jh hnl
 have HD := Jh hD
 have HL := Jh hL
 have HR := Jh hR
 have HRR := Jh hr
 have HIN := Jh hinf
 have HW := Jh hW
 have HA := Jh haft
 have HKW := Jh hkW
 have HBW := Jh hbW
 clear hts hN hD hL hR hr hinf hW haft hkW hbW hsW hNs hN0 hsze hdpe hble hrke hnl hs hd
 go_enter Tryz.func45, Tryz.ntmps45
 go_upto_region 1 with (fail)
 (try simp only [Act.put, List.setIfInBounds_toArray, List.set_cons_zero, List.set_cons_succ])
 rw [← HW.out]
 go_wp2_with (first | (refine wpList_row rfl 41 _ rfl w.heap.size rfl 41 N (0, 0) _ HKW.out undN rfl HIN.out ?_) | fail)
 refine (HN.out _ HBW.out).mono ?_
 rintro e w2 ⟨g, cap, xs, rfl, -, -, hbe2⟩
 rw [HNL.out]
 have hw2 : Below W.heap.size W w2 := hbe2
 obtain ⟨hb2, hk2⟩ := HA.out w2 hw2
 have HK2 := Jh hk2
 have HB2 := Jh hb2
 have HW2 := Jh hw2
 clear hbe2 hw2 hb2 hk2
 by_cases c1 : 256 < sz
 · go_wp2
   go_ret
   exact ⟨by rw [HRR.out, if_pos c1]; rfl, HB2.out⟩
 have h1 : r = if 32 < dp then 8 else if bl = true ∨ rk = false then 6 else 0 := by rw [HRR.out, if_neg c1]
 have H1 := Jh h1
 clear h1
 go_wp2_with (first | (refine wpList_row rfl 41 _ rfl w.heap.size rfl 41 N (0, 0) _ HK2.out undN rfl HIN.out ?_) | fail)
 refine (HD.out _ HB2.out).mono ?_
 rintro e w3 ⟨rfl, hbe3⟩
 have hw3 : Below W.heap.size W w3 := HW2.out.trans (hbe3.mono HW2.out.size)
 obtain ⟨hb3, hk3⟩ := HA.out w3 hw3
 have HK3 := Jh hk3
 have HB3 := Jh hb3
 have HW3 := Jh hw3
 clear hbe3 hw3 hb3 hk3
 by_cases c2 : 32 < dp
 · go_wp2
   go_ret
   exact ⟨by rw [H1.out, if_pos c2]; rfl, HB3.out⟩
 have h2 : r = if bl = true ∨ rk = false then 6 else 0 := by rw [H1.out, if_neg c2]
 have H2 := Jh h2
 clear h2
 go_wp2_with (first | (refine wpList_row rfl 41 _ rfl w.heap.size rfl 41 N (0, 0) _ HK3.out undN rfl HIN.out ?_) | fail)
 refine (HL.out _).mono ?_
 rintro e w4 ⟨rfl, hbe4⟩
 have hw4 : Below W.heap.size W w4 := HW3.out.trans (hbe4.mono HW3.out.size)
 obtain ⟨hb4, hk4⟩ := HA.out w4 hw4
 have HK4 := Jh hk4
 have HB4 := Jh hb4
 clear hbe4 hw4 hb4 hk4
 cases bl
 · go_wp2_with (first | (refine wpList_row rfl 41 _ rfl w.heap.size rfl 41 N (0, 0) _ HK4.out undN rfl HIN.out ?_) | fail)
   refine (HR.out _ HB4.out).mono ?_
   rintro e w5 ⟨rfl, hbe5⟩
   have hb5 := HB4.out.trans (hbe5.mono HB4.out.size)
   cases rk
   · go_wp2
     go_ret
     exact ⟨by rw [H2.out]; rfl, hb5⟩
   · go_wp2
     go_ret
     exact ⟨by rw [H2.out]; rfl, hb5⟩
 · go_wp2
   go_ret
   exact ⟨by rw [H2.out]; rfl, HB4.out⟩
end Go.Proofs.YtelombedjkbckaaGreatDoor
namespace Go.Proofs.YtelombedjkbckaaGreatDoor
open Go Go.RowKit Go.Shelf

theorem r2_any (v : Vl) (hv : v.ok) (w : World) : Calls Tryz.prog 44 #[.agg v.cells.toArray] w fun e w' => e = .returned (.bool (r2 v)) ∧ Below w.heap.size w w' := by
 obtain ⟨k, m, x, s, b, f⟩ := v
 have hm : i64 m := hv.2.1
 have hs : s.size ≤ 9223372036854775807 := hv.2.2.2.1
 by_cases h0 : k = 0
 · subst h0; exact r2_0 m x f s b hm hs w
 by_cases h1 : k = 1
 · subst h1; exact r2_1 m x f s b hm hs w
 by_cases h2 : k = 2
 · subst h2; exact r2_2 m x f s b hm hs w
 by_cases h3 : k = 3
 · subst h3; exact r2_3 m x f s b hm hs w
 by_cases h4 : k = 4
 · subst h4; exact r2_4 m x f s b hm hs w
 exact r2_no k h0 h1 h2 h3 h4 m x f s b hm hs w
theorem nil_bytes (s : ByteArray) : s.toList = [] ↔ s = noBytes := by
 have e : noBytes.toList = [] := by unfold noBytes; rw [ByteArray.toList_eq]
 rw [← str_eq, e]
theorem r2_eq (v : Vl) : r2 v = valRight v := by
 obtain ⟨k, m, x, s, b, f⟩ := v
 unfold r2 valRight
 simp only [ne_eq, nil_bytes]
 by_cases h0 : k = 0
 · subst h0
   rw [Bool.eq_iff_iff]
   simp [zeroV]
   grind
 by_cases h1 : k = 1
 · subst h1
   rw [Bool.eq_iff_iff]
   simp [ofV]
   grind
 by_cases h2 : k = 2
 · subst h2
   rw [Bool.eq_iff_iff]
   simp [textV, badV]
   grind
 by_cases h3 : k = 3
 · subst h3
   rw [Bool.eq_iff_iff]
   simp [truthV]
   grind
 by_cases h4 : k = 4
 · subst h4
   rw [Bool.eq_iff_iff]
   simp [badV]
   grind
 rw [Bool.eq_iff_iff]
 simp [h0, h1, h2, h3, h4]
set_option maxRecDepth 100000 in
theorem rblank_c (v : Vl) (w : World) : Calls Tryz.prog 42 #[.agg v.cells.toArray] w fun e w' => e = .returned (.bool (decide (v = zVl))) ∧ Below w.heap.size w w' := by
 have hE : ∀ wx, (Op.equalIn 10000 34 (.agg v.cells.toArray) (.agg zVl.cells.toArray)).run Tryz.prog wx = .ok (decide (v = zVl)) wx := fun wx => eqV wx v zVl
 obtain ⟨r, hr⟩ : ∃ r, decide (v = zVl) = r := ⟨_, rfl⟩
 rw [hr] at hE ⊢
 obtain ⟨k, m, x, s, b, f⟩ := v
 dsimp only [zVl, Vl.cells] at hE ⊢
 clear hr
 go_enter Tryz.func42, Tryz.ntmps42
 go_wp2
 go_ret
 exact ⟨rfl, (Below.refl _ w).alloc (Nat.le_refl _) _⟩
set_option maxRecDepth 100000 in
set_option maxHeartbeats 2000000 in
theorem rbare_c (t : Tr) (w : World) (B : Nat) (A : Option Addr) (c : Nat) (hd : t.d.ok) (hs : SlAt w B A c t.l) (hB : B ≤ w.heap.size) :
    Calls Tryz.prog 43 #[nodeV t.d A t.l.length c] w fun e w' => e = .returned (.bool (sameB t zTr)) ∧ Below w.heap.size w w' := by
 have hb0 : Below w.heap.size w (w.alloc (.cells (nodeA t.d A t.l.length c) 41)) := (Below.refl _ w).alloc (Nat.le_refl _) _
 have hS : Calls Tryz.prog 39 #[nodeV t.d A t.l.length c, .agg (nodeA zNd none 0 0)] (w.alloc (.cells (nodeA t.d A t.l.length c) 41)) fun e w' => e = .returned (.bool (sameB t zTr)) ∧ Below (w.alloc (.cells (nodeA t.d A t.l.length c) 41)).heap.size (w.alloc (.cells (nodeA t.d A t.l.length c) 41)) w' :=
  rsame_c t zTr _ B A none c 0 hd (hs.below (hb0.mono hB)) zNd_ok (slAt_nil _ _) (by rw [World.size_alloc]; omega)
 obtain ⟨N, hN⟩ : ∃ N, N = nodeA t.d A t.l.length c := ⟨_, rfl⟩
 have hNs : N.size = 22 := by rw [hN]; rfl
 have hinf := infN
 rw [← hNs] at hinf
 rw [nodeV, ← hN] at hS
 rw [nodeV, ← hN]
 rw [← hN] at hb0
 obtain ⟨r, hr⟩ : ∃ r, sameB t zTr = r := ⟨_, rfl⟩
 rw [hr] at hS ⊢
 have HS := Jh hS
 have HI := Jh hinf
 have HB := Jh hb0
 clear hS hinf hb0 hN hNs hr hd hs hB
 go_enter Tryz.func43, Tryz.ntmps43
 go_wp2_with (first | (refine wpList_row rfl 41 _ rfl w.heap.size rfl 41 N (0, 0) _ (World.alloc_heap_new w _) undN rfl HI.out ?_) | (go_at_call 39; refine HS.out.mono ?_; rintro e w2 ⟨rfl, hbe⟩))
 go_ret
 exact ⟨rfl, HB.out.trans (hbe.mono HB.out.size)⟩

theorem right18_eq (x : Ct) : rightC x = (if x.k = 0 then decide (x.v = zVl) && sameB x.t zTr else if x.k = 1 then decide (x.v.k ≠ 0) && (r2 x.v && sameB x.t zTr) else if x.k = 2 then decide (x.v = zVl) && decide (checkI x.t = 0) else false) := by
 unfold rightC sameC
 rw [r2_eq]
 split
 · rename_i h
   rw [decide_eq_true (show x.k = zCt.k from h), Bool.true_and]
   rfl
 · split
   · cases sameB x.t zTr <;> cases valRight x.v <;> simp
   · rfl

set_option maxRecDepth 100000 in
set_option maxHeartbeats 2000000 in
theorem rright18_c (x : Ct) (w : World) (B : Nat) (A : Option Addr) (c : Nat) (hv : x.v.ok) (hd : x.t.d.ok) (hs : SlAt w B A c x.t.l) (hB : B ≤ w.heap.size) (hsz : x.t.size ≤ 1048576) :
    Calls Tryz.prog 23 #[contV x A c] w fun e w' => e = .returned (.bool (rightC x)) ∧ Below w.heap.size w w' := by
 obtain ⟨W0, hW0⟩ : ∃ W0, W0 = w.alloc (.cells (contA x A c) 43) := ⟨_, rfl⟩
 have hbel : Below w.heap.size w W0 := by rw [hW0]; exact (Below.refl _ w).alloc (Nat.le_refl _) _
 have hz0 : W0.heap.size = w.heap.size + 1 := by rw [hW0]; simp
 have hk0 : W0.heap[w.heap.size]? = some (.cells (contA x A c) 43) := by rw [hW0]; exact heap_alloc_new _ _
 have hsl : ∀ wx, Below W0.heap.size W0 wx → SlAt wx B A c x.t.l := fun wx hx => (hs.below (hbel.mono hB)).below (hx.mono (by omega))
 have hT : ∀ wx, Below W0.heap.size W0 wx → Calls Tryz.prog 43 #[nodeV x.t.d A x.t.l.length c] wx fun e w' => e = .returned (.bool (sameB x.t zTr)) ∧ Below wx.heap.size wx w' := fun wx hx => rbare_c x.t wx B A c hd (hsl wx hx) (by have := hx.size; omega)
 have hV := fun wx => r2_any x.v hv wx
 have hE := fun wx => rblank_c x.v wx
 have hC := fun wx (hx : Below W0.heap.size W0 wx) => rcheck_c x.t wx B A c hd (hsl wx hx) (by have := hx.size; omega) hsz
 have hrow := fun wx (hx : Below W0.heap.size W0 wx) => cont_row ((hx.block w.heap.size (by omega)).trans hk0)
 obtain ⟨CA, hCA⟩ : ∃ C, C = contA x A c := ⟨_, rfl⟩
 rw [contV, ← hCA]
 rw [← hCA] at hW0 hk0
 have hinf := infNl x.t.d A x.t.l.length c
 have hiv := infVl x.v
 have hic := infC
 rw [show (29 : Nat) = CA.size by rw [hCA]; rfl] at hic
 obtain ⟨b, hb⟩ : ∃ b, b = w.heap.size := ⟨_, rfl⟩
 have e0 := (hrow W0 (Below.refl _ _)).1
 have hr1 := fun wx hx => (hrow wx hx).2.1
 have hvk : ∀ wx, Below W0.heap.size W0 wx → wx.cell? ⟨w.heap.size, 1, none⟩ = some (.int .i64 x.v.k) := fun wx hx => hr1 wx hx 0 _ rfl
 have hr7 := fun wx hx => (hrow wx hx).2.2
 rw [nodeV] at hT
 obtain ⟨r, hr⟩ : ∃ r, rightC x = r := ⟨_, rfl⟩
 rw [hr]
 rw [right18_eq] at hr
 obtain ⟨N, hN⟩ : ∃ N, N = nodeA x.t.d A x.t.l.length c := ⟨_, rfl⟩
 rw [nodeV, ← hN] at hC
 rw [← hN] at hT hr7 hinf
 clear hrow hd hs hCA hN hv hsl
 obtain ⟨k, v, t⟩ := x
 dsimp only at hT hV e0 hr1 hr7 hr hinf hiv hC hE hvk
 obtain ⟨vc, hvc⟩ : ∃ u, u = v.cells := ⟨_, rfl⟩
 rw [← hvc] at hr1 hiv hE hV
 rw [← hb] at e0 hr1 hr7 hz0 hvk hk0
 have HT := Jh hT
 have HV := Jh hV
 have HE := Jh hE
 have HC := Jh hC
 have HI := Jh hinf
 have HJ := Jh hiv
 have HIC := Jh hic
 have HR1 := Jh hr1
 have HR7 := Jh hr7
 have HR := Jh hr
 have HW := Jh hW0
 have HK0 := Jh hk0
 have HBL := Jh hbel
 have HVK := Jh hvk
 clear hT hV hE hC hinf hiv hic hr1 hr7 hr hW0 hvc hbel hk0 hvk
 have HB := Jh hb
 have hb00 : Below W0.heap.size W0 W0 := Below.refl _ _
 clear hb
 by_cases k0 : k = 0
 · subst k0
   have hr := HR.out
   rw [if_pos rfl] at hr
   have HR2 := Jh hr
   clear hr
   cases ev : decide (v = zVl) with
   | false =>
    have HE1 := Jh (by have := HE.out W0; rw [ev] at this; exact this)
    go_enter Tryz.func23, Tryz.ntmps23
    go_upto_region 1 with (fail)
    rw [← HW.out, ← HB.out]
    go_wp2_with (first | (refine wpList_mid rfl 34 _ rfl b 1 rfl vc _ (HR1.out _ hb00) undVl rfl HJ.out ?_) | (go_at_call 42; refine HE1.out.mono ?_; rintro e w2 ⟨rfl, hbe⟩))
    go_ret
    exact ⟨ret_bool (by rw [← HR2.out, ev]; rfl), HBL.out.trans (hbe.mono HBL.out.size)⟩
   | true =>
    have HE1 := Jh (by have := HE.out W0; rw [ev] at this; exact this)
    go_enter Tryz.func23, Tryz.ntmps23
    go_upto_region 1 with (fail)
    rw [← HW.out, ← HB.out]
    go_wp2_with (first | (refine wpList_mid rfl 34 _ rfl b 1 rfl vc _ (HR1.out _ hb00) undVl rfl HJ.out ?_) | (go_at_call 42; refine HE1.out.mono ?_; rintro e w2 ⟨rfl, hbe⟩) | (refine wpList_mid rfl 41 _ rfl b 7 rfl N.toList _ (HR7.out _ hbe) undN rfl HI.out ?_; simp only [Array.toArray_toList]) | (go_at_call 43; refine (HT.out _ hbe).mono ?_; rintro e w3 ⟨rfl, hb3⟩))
    go_ret
    exact ⟨ret_bool (by rw [← HR2.out, ev]; rfl), HBL.out.trans ((hbe.trans (hb3.mono hbe.size)).mono HBL.out.size)⟩
 have q0 : (k == 0) = false := by simpa using k0
 by_cases k1 : k = 1
 · subst k1
   have hr := HR.out
   rw [if_neg (by decide), if_pos rfl] at hr
   have HR2 := Jh hr
   clear hr
   have hvk0 := HVK.out _ hb00
   by_cases vk : v.k = 0
   · have qv : (v.k != 0) = false := by simpa using vk
     have HVZ := Jh vk
     clear vk
     go_enter Tryz.func23, Tryz.ntmps23
     go_upto_region 1 with (fail)
     rw [← HW.out, ← HB.out]
     go_wp2
     go_ret
     exact ⟨ret_bool (by rw [← HR2.out]; simp [HVZ.out]), HBL.out⟩
   · have qv : (v.k != 0) = true := by simpa using vk
     have HVZ := Jh vk
     clear vk
     cases er : r2 v with
     | false =>
      have HV1 := Jh (by have := HV.out W0; rw [er] at this; exact this)
      go_enter Tryz.func23, Tryz.ntmps23
      go_upto_region 1 with (fail)
      rw [← HW.out, ← HB.out]
      go_wp2_with (first | (refine wpList_mid rfl 34 _ rfl b 1 rfl vc _ (HR1.out _ hb00) undVl rfl HJ.out ?_) | (go_at_call 44; refine HV1.out.mono ?_; rintro e w2 ⟨rfl, hbe⟩))
      go_ret
      exact ⟨ret_bool (by rw [← HR2.out, er]; simp), HBL.out.trans (hbe.mono HBL.out.size)⟩
     | true =>
      have HV1 := Jh (by have := HV.out W0; rw [er] at this; exact this)
      go_enter Tryz.func23, Tryz.ntmps23
      go_upto_region 1 with (fail)
      rw [← HW.out, ← HB.out]
      go_wp2_with (first | (refine wpList_mid rfl 34 _ rfl b 1 rfl vc _ (HR1.out _ hb00) undVl rfl HJ.out ?_) | (go_at_call 44; refine HV1.out.mono ?_; rintro e w2 ⟨rfl, hbe⟩) | (refine wpList_mid rfl 41 _ rfl b 7 rfl N.toList _ (HR7.out _ hbe) undN rfl HI.out ?_; simp only [Array.toArray_toList]) | (go_at_call 43; refine (HT.out _ hbe).mono ?_; rintro e w3 ⟨rfl, hb3⟩))
      go_ret
      exact ⟨ret_bool (by rw [← HR2.out, er]; simp [HVZ.out]), HBL.out.trans ((hbe.trans (hb3.mono hbe.size)).mono HBL.out.size)⟩
 have q1 : (k == 1) = false := by simpa using k1
 by_cases k2 : k = 2
 · subst k2
   have hr := HR.out
   rw [if_neg (by decide), if_neg (by decide), if_pos rfl] at hr
   have HR2 := Jh hr
   clear hr
   cases ev : decide (v = zVl) with
   | false =>
    have HE1 := Jh (by have := HE.out W0; rw [ev] at this; exact this)
    go_enter Tryz.func23, Tryz.ntmps23
    go_upto_region 1 with (fail)
    rw [← HW.out, ← HB.out]
    go_wp2_with (first | (refine wpList_mid rfl 34 _ rfl b 1 rfl vc _ (HR1.out _ hb00) undVl rfl HJ.out ?_) | (go_at_call 42; refine HE1.out.mono ?_; rintro e w2 ⟨rfl, hbe⟩))
    go_ret
    exact ⟨ret_bool (by rw [← HR2.out, ev]; rfl), HBL.out.trans (hbe.mono HBL.out.size)⟩
   | true =>
    have HE1 := Jh (by have := HE.out W0; rw [ev] at this; exact this)
    obtain ⟨ck, hck⟩ : ∃ ck, checkI t = ck := ⟨_, rfl⟩
    have HCK := Jh hck
    rw [hck] at HC
    clear hck
    by_cases ec : ck = 0
    · subst ec
      go_enter Tryz.func23, Tryz.ntmps23
      go_upto_region 1 with (fail)
      rw [← HW.out, ← HB.out]
      go_wp2_with (first | (refine wpList_mid rfl 34 _ rfl b 1 rfl vc _ (HR1.out _ hb00) undVl rfl HJ.out ?_) | (go_at_call 42; refine HE1.out.mono ?_; rintro e w2 ⟨rfl, hbe⟩) | (refine wpList_mid rfl 41 _ rfl b 7 rfl N.toList _ (HR7.out _ hbe) undN rfl HI.out ?_; simp only [Array.toArray_toList]) | (go_at_call 45; refine (HC.out _ hbe).mono ?_; rintro e w3 ⟨rfl, hb3⟩))
      go_ret
      exact ⟨ret_bool (by rw [← HR2.out, ev, HCK.out]; rfl), HBL.out.trans ((hbe.trans (hb3.mono hbe.size)).mono HBL.out.size)⟩
    · have qc : (ck == 0) = false := by simpa using ec
      have HEC := Jh ec
      clear ec
      go_enter Tryz.func23, Tryz.ntmps23
      go_upto_region 1 with (fail)
      rw [← HW.out, ← HB.out]
      go_wp2_with (first | (refine wpList_mid rfl 34 _ rfl b 1 rfl vc _ (HR1.out _ hb00) undVl rfl HJ.out ?_) | (go_at_call 42; refine HE1.out.mono ?_; rintro e w2 ⟨rfl, hbe⟩) | (refine wpList_mid rfl 41 _ rfl b 7 rfl N.toList _ (HR7.out _ hbe) undN rfl HI.out ?_; simp only [Array.toArray_toList]) | (go_at_call 45; refine (HC.out _ hbe).mono ?_; rintro e w3 ⟨rfl, hb3⟩))
      go_ret
      exact ⟨ret_bool (by rw [← HR2.out, ev, HCK.out]; simp [HEC.out]), HBL.out.trans ((hbe.trans (hb3.mono hbe.size)).mono HBL.out.size)⟩
 have q2 : (k == 2) = false := by simpa using k2
 have hr := HR.out
 rw [if_neg k0, if_neg k1, if_neg k2] at hr
 have HR2 := Jh hr
 clear hr
 go_enter Tryz.func23, Tryz.ntmps23
 go_upto_region 1 with (fail)
 rw [← HW.out, ← HB.out]
 go_wp2
 go_ret
 exact ⟨ret_bool HR2.out, HBL.out⟩
end Go.Proofs.YtelombedjkbckaaGreatDoor
namespace Go.Proofs.YtelombedjkbckaaGreatDoor
set_option linter.unusedSimpArgs false
set_option linter.unusedVariables false
open Go Go.RowKit Go.Shelf Go.Maps

set_option maxRecDepth 100000 in
theorem isRef_c (ra rn ca cn : Int) (w : World) : Calls Tryz.prog 27 #[.agg #[.int .i64 ra, .int .i64 rn, .int .i64 ca, .int .i64 cn]] w fun e w' => e = .returned (.bool (isCellB ra rn ca cn)) ∧ Below w.heap.size w w' := by
 have h1 := fun w => eqI w ra rn 0 0
 have h2 := fun w => eqI w ca cn 0 0
 unfold isCellB
 obtain ⟨r1, hr1⟩ : ∃ r, decide (ra = 0 ∧ rn = 0) = r := ⟨_, rfl⟩
 obtain ⟨r2, hr2⟩ : ∃ r, decide (ca = 0 ∧ cn = 0) = r := ⟨_, rfl⟩
 rw [hr1] at h1 ⊢
 rw [hr2] at h2 ⊢
 clear hr1 hr2
 cases r1
 all_goals
  go_enter Tryz.func27, Tryz.ntmps27
  go_wp2
  go_ret
  exact ⟨ret_bool (by simp), (Below.refl _ w).alloc (Nat.le_refl _) _⟩
/-- what it hands back. -/
def RputPost (w : World) (a : Ad) (x : Ct) (A : Option Addr) (c : Nat) (e : Ending) (w' : World) : Prop :=
 ∃ A' c', e = .returned (.tuple #[.slice A' (putR [] a x).1.length c', .int .i64 (putR [] a x).2]) ∧ c' ≤ 9223372036854775807 ∧ Below w.heap.size w w' ∧
  ((putR [] a x).1 = [] ∨ ((putR [] a x).1 = [(a, x)] ∧ ∃ g, A' = some ⟨g, 0, none⟩ ∧ w.heap.size ≤ g ∧ g < w'.heap.size ∧ 1 ≤ c' ∧ w'.rangeAt g 0 (a.cs ++ (contA x A c).toList)))
theorem infoRc : (Tryz.prog.info? 45).map (fun i => (i.zero.map (fun z => z.cells.size), i.size, i.bytes)) = some (some 33, 33, 288) := by kernel_rfl
theorem infRc_ : (Tryz.prog.info? 45).map (·.size) = some 33 := by kernel_rfl
theorem zeroRc : ((Tryz.prog.info? 45).bind (·.zero)).isSome = true := by kernel_rfl
theorem info_parts_ {i : Option TypeInfo} {n s b : Nat} (h : i.map (fun i => (i.zero.map (fun z => z.cells.size), i.size, i.bytes)) = some (some n, s, b)) : ∃ ti z, i = some ti ∧ ti.zero = some z ∧ z.cells.size = n ∧ ti.size = s ∧ ti.bytes = b := by
 cases i with
 | none => cases h
 | some ti =>
  simp only [Option.map_some, Option.some.injEq, Prod.mk.injEq] at h
  obtain ⟨z, hz, hzn⟩ := Option.map_eq_some_iff.1 h.1
  exact ⟨ti, z, rfl, hz, hzn, h.2.1, h.2.2⟩
theorem undRcs : Tryz.prog.underlying 22 = some (.slice 45) := by kernel_rfl
/-- a slice of one cell with its content. -/
theorem wpList_oneRc {ops : Array Oper} {rest : List Oper} {o : Oper} {a : Act} {w : World} {Q : Exit → Act → World → Prop} (hg : o.guard = none) (i : Nat) (ho : o.op = .buildSlice 22 1 #[(0, .tmp i)]) (N : Array Value) (hev : a.eval (.tmp i) = .agg N) (hn : N.size = 33)
    (h : wpList Tryz.prog ops Q rest (a.put o.dst (.slice (some ⟨w.heap.size, 0, none⟩) 1 1)) (w.alloc (.cells N 45))) : wpList Tryz.prog ops Q (o :: rest) a w := by
 refine Great.wpList_buildRows hg 22 45 #[(0, .tmp i)] 33 [.agg N] ho (fun _ => i) w.heap.size rfl o.dst rfl undRcs infRc_ zeroRc (by decide) (by simp) (by simp) rfl (fun v hv => ?_) (fun j hj => ?_) ?_
 · simp only [List.mem_singleton] at hv; subst hv; exact hn
 · simp only [List.length_singleton, Nat.lt_one_iff] at hj; subst hj; exact hev
 · have e : ([Value.agg N].flatMap fun v => v.cells.toList).toArray = N := by simp [Value.cells]
   rw [e]; exact h
theorem own0_ (w : World) : (w.alloc (.cells #[] 45)).ownsRow w.heap.size 45 33 (.slice (some ⟨w.heap.size, 0, none⟩) 0 0) 0 [] :=
 ⟨rfl, .inr ⟨w.heap.size, 0, #[], rfl, Nat.le_refl _, heap_alloc_new _ _, Nat.le_refl _, by decide, rfl, rfl⟩⟩
theorem cs_one' (a : Ad) : ∀ v ∈ a.cs, v.oneCell' = true := fun v hv => by
 simp only [Ad.cs, List.mem_cons, List.not_mem_nil, or_false] at hv
 rcases hv with rfl | rfl | rfl | rfl <;> rfl
set_option maxRecDepth 100000 in
set_option maxHeartbeats 4000000 in
theorem rputNil_c (w : World) (a : Ad) (ha : a.ok) (x : Ct) (A : Option Addr) (c : Nat) (hv : x.v.ok) (hd : x.t.d.ok) (hs : SlAt w w.heap.size A c x.t.l) (hsz : x.t.size ≤ 1048576) :
    Calls Tryz.prog 17 #[.slice none 0 0, a.val, contV x A c] w (RputPost w a x A c) := by
 obtain ⟨b, hb⟩ : ∃ b, b = w.heap.size := ⟨_, rfl⟩
 obtain ⟨CA, hCA⟩ : ∃ C, C = contA x A c := ⟨_, rfl⟩
 obtain ⟨W0, hW0⟩ : ∃ W0, W0 = (w.alloc (.cells a.cs.toArray 30)).alloc (.cells CA 43) := ⟨_, rfl⟩
 have hbel : Below w.heap.size w W0 := by rw [hW0]; exact ((Below.refl _ w).alloc (Nat.le_refl _) _).alloc (by simp) _
 have hk0 : W0.heap[b]? = some (.cells a.cs.toArray 30) := by rw [hW0, hb]; exact (heapOld _ _ _ (by simp)).trans (heap_alloc_new _ _)
 have hk1 : W0.heap[b + 1]? = some (.cells CA 43) := by
  rw [hW0, hb]
  have := heap_alloc_new (w.alloc (.cells a.cs.toArray 30)) (.cells CA 43)
  rwa [World.size_alloc] at this
 have hz0 : W0.heap.size = b + 2 := by rw [hW0, hb]; simp
 have hright : ∀ wx, Below W0.heap.size W0 wx → Calls Tryz.prog 23 #[.agg CA] wx fun e w' => e = .returned (.bool (rightC x)) ∧ Below wx.heap.size wx w' := fun wx hx => by
  rw [hCA]
  exact rright18_c x wx b A c hv hd (by rw [hb]; exact (hs.below hbel).below (hx.mono hbel.size)) (by have := hx.size; omega) hsz
 have his := fun wx => isRef_c a.ra a.rn a.ca a.cn wx
 have hicx : (Tryz.prog.info? 43).map (·.size) = some CA.size := by rw [hCA]; exact infC
 have hk0c : ∀ wx, Below W0.heap.size W0 wx → wx.cell? ⟨b + 1, 0, none⟩ = some (.int .i64 x.k) := fun wx hx => by rw [cell_of_row _ _ 0 _ _ _ ((hx.block (b + 1) (by omega)).trans hk1), hCA]; rfl
 obtain ⟨NC, hNC⟩ : ∃ N, N = (a.cs ++ (contA x A c).toList).toArray := ⟨_, rfl⟩
 obtain ⟨ti, z, hti, hz0', hzn, hz1, hz2⟩ := info_parts_ infoRc
 have HTI := Jh (And.intro hti (And.intro hz0' (And.intro hz1 (And.intro hz2 hzn))))
 clear hti hz0' hzn hz1 hz2
 rw [show contV x A c = .agg CA by rw [hCA]]
 obtain ⟨ra, rn, ca, cn⟩ := a
 dsimp only [Ad.cs] at hW0 hk0
 dsimp only at his
 dsimp only [Ad.val]
 have HW0 := Jh hW0
 have HB := Jh hb
 have HK0 := Jh hk0
 have HK1 := Jh hk1
 have HR := Jh hright
 have HIS := Jh his
 have HIC := Jh hicx
 have HBL := Jh hbel
 have HKC := Jh hk0c
 have HZ := Jh hz0
 have HCA := Jh hCA
 have HNC := Jh hNC
 have hp : putR [] (⟨ra, rn, ca, cn⟩ : Ad) x = if isCellB ra rn ca cn = false then ([], 1) else if rightC x = false then ([], 6) else if x.k = 0 then ([], 0) else ([(⟨ra, rn, ca, cn⟩, x)], 0) := by
  unfold putR
  rfl
 have HP := Jh hp
 have hone : ∀ u ∈ NC.toList, u.oneCell' = true := fun u hu => by
  rw [hNC] at hu
  have hu' : u ∈ Ad.cs ⟨ra, rn, ca, cn⟩ ∨ u ∈ contA x A c := by simpa using hu
  rcases hu' with h | h
  · exact cs_one' _ u h
  · have := cont_one x A c
    rw [Array.all_eq_true_iff_forall_mem] at this
    exact this u h
 have hNCs : NC.size = 33 := by rw [hNC]; rfl
 have HON := Jh (And.intro hone hNCs)
 clear hCA hW0 hb hk0 hk1 hright his hicx hbel hk0c hz0 hNC hp hone hNCs ha hv hd hs hsz
 go_enter Tryz.func17, Tryz.ntmps17
 go_upto_region 1 with (fail)
 rw [← HW0.out, ← HB.out]
 cases hbi : isCellB ra rn ca cn with
 | false =>
  have HBI := Jh hbi
  rw [hbi] at HIS
  clear hbi
  go_wp2_with (first | (refine wpList_row rfl 30 _ rfl b rfl 30 _ (0, 0) _ HK0.out undCell rfl (infCe4 _ _ _ _) ?_) | (go_at_call 27; refine (HIS.out _).mono ?_; rintro e w1 ⟨rfl, hb1⟩) | fail)
  first | go_ret | go_ret2
  have h1 := HBL.out
  unfold RputPost
  rw [HP.out, HBI.out]
  exact ⟨none, 0, rfl, by decide, h1.trans (hb1.mono h1.size), .inl rfl⟩
 | true =>
  have HBI := Jh hbi
  rw [hbi] at HIS
  clear hbi
  cases hri : rightC x with
  | false =>
   have HRI := Jh hri
   rw [hri] at HR
   clear hri
   go_wp2_with (first | (refine wpList_row rfl 30 _ rfl b rfl 30 _ (0, 0) _ HK0.out undCell rfl (infCe4 _ _ _ _) ?_) | (go_at_call 27; refine (HIS.out _).mono ?_; rintro e w1 ⟨rfl, hb1⟩) | (refine wpList_row rfl 43 _ rfl (b + 1) rfl 43 CA (0, 0) _ ((hb1.block (b + 1) (by have := HZ.out; omega)).trans HK1.out) undC rfl HIC.out ?_) | (go_at_call 23; refine (HR.out _ hb1).mono ?_; rintro e w2 ⟨rfl, hb2⟩) | fail)
   first | go_ret | go_ret2
   have h1 := HBL.out
   unfold RputPost
   rw [HP.out, HBI.out, HRI.out]
   exact ⟨none, 0, rfl, by decide, (h1.trans (hb1.mono h1.size)).trans (hb2.mono (Nat.le_trans h1.size hb1.size)), .inl rfl⟩
  | true =>
   have HRI := Jh hri
   rw [hri] at HR
   clear hri
   by_cases hk : x.k = 0
   · have HKX := Jh hk
     rw [hk] at HKC
     clear hk
     go_wp2_with (first | (refine wpList_row rfl 30 _ rfl b rfl 30 _ (0, 0) _ HK0.out undCell rfl (infCe4 _ _ _ _) ?_) | (go_at_call 27; refine (HIS.out _).mono ?_; rintro e w1 ⟨rfl, hb1⟩; have HX := Jh hb1; clear hb1) | (refine wpList_row rfl 43 _ rfl (b + 1) rfl 43 CA (0, 0) _ ((HX.out.block (b + 1) (by have := HZ.out; omega)).trans HK1.out) undC rfl HIC.out ?_) | (go_at_call 23; refine (HR.out _ HX.out).mono ?_; rintro e w2 ⟨rfl, hb2⟩; have hb3 := HX.out.trans (hb2.mono HX.out.size); have HY := Jh hb3; have hk2 := HKC.out (w2.alloc (.cells #[] 45)) (hb3.alloc hb3.size _); clear hb2 hb3) | fail)
     refine wp_loop_rounds 1 ?_
     rw [rounds_succ]
     go_wp2
     first | go_ret | go_ret2
     have h1 := HBL.out
     have h2 := HY.out
     unfold RputPost
     rw [HP.out, HBI.out, HRI.out, HKX.out]
     exact ⟨_, 0, rfl, by decide, (h1.trans (h2.mono h1.size)).alloc (Nat.le_trans h1.size h2.size) _, .inl rfl⟩
   · have HKX := Jh hk
     have hkI : ¬ (x.k = 0) := hk
     clear hk
     obtain ⟨kk, hkk⟩ : ∃ k, k = x.k := ⟨_, rfl⟩
     rw [← hkk] at HKC hkI
     clear hkk
     have hkb : (kk == 0) = false := by simpa using hkI
     go_wp2_with (first | (refine wpList_row rfl 30 _ rfl b rfl 30 _ (0, 0) _ HK0.out undCell rfl (infCe4 _ _ _ _) ?_) | (go_at_call 27; refine (HIS.out _).mono ?_; rintro e w1 ⟨rfl, hb1⟩; have HX := Jh hb1; clear hb1) | (refine wpList_row rfl 43 _ rfl (b + 1) rfl 43 CA (0, 0) _ ((HX.out.block (b + 1) (by have := HZ.out; omega)).trans HK1.out) undC rfl HIC.out ?_) | (go_at_call 23; refine (HR.out _ HX.out).mono ?_; rintro e w2 ⟨rfl, hb2⟩; have hb3 := HX.out.trans (hb2.mono HX.out.size); have HY := Jh hb3; have hk2 := HKC.out (w2.alloc (.cells #[] 45)) (hb3.alloc hb3.size _); clear hb2 hb3) | fail)
     refine wp_loop_rounds 1 ?_
     rw [rounds_succ]
     obtain ⟨W3, hW3⟩ : ∃ W3, W3 = w2.alloc (.cells #[] 45) := ⟨_, rfl⟩
     have hb3 : Below W0.heap.size W0 W3 := by rw [hW3]; exact HY.out.alloc HY.out.size _
     have hown3 : W3.ownsRow w2.heap.size 45 33 (.slice (some ⟨w2.heap.size, 0, none⟩) 0 0) 0 [] := by rw [hW3]; exact own0_ w2
     have hbw2 : Below w2.heap.size w2 W3 := by rw [hW3]; exact (Below.refl _ _).alloc (Nat.le_refl _) _
     have hW3s : W3.heap.size = w2.heap.size + 1 := by rw [hW3]; simp
     have h4 : ∀ w4 : World, (W3.alloc (.cells NC 45)).grownBy w4 (some w2.heap.size) → w4.cell? ⟨b + 1, 0, none⟩ = some (.int .i64 kk) ∧ Below w2.heap.size w2 w4 := fun w4 hg => by
      have e2 := HY.out.size
      have ez := HZ.out
      have hbl : Below w2.heap.size w2 w4 := ⟨hg.os.trans hbw2.os, hg.tape.trans hbw2.tape, hg.output.trans hbw2.output, by have := hg.size; rw [World.size_alloc] at this; omega, fun k hk => (hg.block k (by rw [World.size_alloc]; omega) (fun e => by cases e; omega)).trans ((heapOld _ _ _ (by omega)).trans (hbw2.block k hk))⟩
      exact ⟨HKC.out w4 (HY.out.trans (hbl.mono e2)), hbl⟩
     have HB3 := Jh (And.intro hb3 (And.intro hown3 hW3s))
     have H4 := Jh h4
     rw [← hW3] at hk2 ⊢
     clear hW3 hb3 hown3 h4 hbw2 hW3s
     go_wp2_with (first | (refine wpList_row rfl 30 _ rfl b rfl 30 _ (0, 0) _ ((HB3.out.1.block b (by have := HZ.out; omega)).trans HK0.out) undCell rfl (infCe4 _ _ _ _) ?_) | (refine wpList_row rfl 43 _ rfl (b + 1) rfl 43 CA (0, 0) _ ((HB3.out.1.block (b + 1) (by have := HZ.out; omega)).trans HK1.out) undC rfl HIC.out ?_) | (refine wpList_buildSome rfl 45 _ rfl NC ?_ ?_; focus (rw [HNC.out, HCA.out]; kernel_rfl)) | (refine wpList_oneRc rfl _ rfl NC rfl HON.out.2 ?_) | (at_builtin; refine wpList_append_lies _ rfl (.tmp 63) (.tmp 67) 22 rfl w2.heap.size 45 ti _ 33 288 undRcs HTI.out.1 HTI.out.2.1 HTI.out.2.2.1 HTI.out.2.2.2.1 HTI.out.2.2.2.2 (by decide) (.slice (some ⟨w2.heap.size, 0, none⟩) 0 0) 0 [] rfl (HB3.out.2.1.alloc _) ⟨W3.heap.size, 0, none⟩ 1 1 NC.toList rfl (by simp [HON.out.2]) (World.news_of_block (heap_alloc_new W3 (.cells NC 45))) HON.out.1 (by decide) (by unfold maxLen; omega) (by omega) (by rw [World.size_alloc]; have := HB3.out.2.2; omega) (W3.heap.size + 1) (by rw [World.size_alloc]) ?_; intro g3 cap3 w4 hown4 hgrow hat hlt4; have HO4 := Jh hown4; have HG4 := Jh hgrow; have hk4 := (H4.out w4 hgrow).1; clear hown4 hgrow hat hlt4) | fail)
     first | go_ret | go_ret2
     have h1 := HBL.out
     have h2 := HY.out
     have h3 := (H4.out w4 HG4.out).2
     have e1 := h1.size
     have e2 := h2.size
     have hBE := HB.out
     unfold RputPost
     rw [HP.out, HBI.out, HRI.out, if_neg (by decide), if_neg (by decide), if_neg HKX.out]
     obtain ⟨g', cap', cur, ee, q2, q3, q4, q5, q6, q7⟩ := HO4.out.2.resolve_left (fun h => by cases h.1)
     obtain ⟨rfl, rfl⟩ : g3 = g' ∧ cap3 = cap' := by simpa using ee
     refine ⟨some ⟨g3, 0, none⟩, cap3, rfl, Nat.le_trans q5 (by decide), (h1.trans (h2.mono e1)).trans (h3.mono (by omega)), .inr ⟨rfl, g3, rfl, by omega, (Jg q3).1, by omega, fun i u hu => ?_⟩⟩
     rw [Nat.zero_add]
     refine own_cellC HO4.out rfl i u ?_
     rw [List.nil_append, HNC.out]
     simpa using hu
end Go.Proofs.YtelombedjkbckaaGreatDoor
