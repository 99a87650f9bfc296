/- counterpaneref06.right: the plain law. Regions that draw their order,whose operations read and whose callees make memory alone: loads of whole rows in such a walk. No program in sight. counterpaneref06.own,right,Check. The reference's Nodes and Great. The reference's Great. The reference's Depth. counterpaneref06.Check. The reference's Right of a content. -/
import Derived.Test.YtjobojfaocihfaaGreatFhTz0OvCu
import Derived.Test.YtjobojfaocihfaaGreatFdM
import Derived.Test.YtjobojfaocihfaaGreatRiCkXbXcXdXeXfHcOaOb
import Derived.Test.YtjobojfaocihfaaGreatIoIpSrQdQeQfRF
import Derived.Lib.QuietBelow
import Derived.BigQuiet
import Derived.Test.YtjobojfaocihfaaGreatFi4M
import Derived.Test.YtjobojfaocihfaaGreatFi8M
import Derived.Test.YtjobojfaocihfaaGreatFi9M
import Derived.Laws.OwnMore
import Derived.Test.YtjobojfaocihfaaGreatXsM
namespace Go.Proofs.YtjobojfaocihfaaGreat
open Go.RowKit Go.Shelf
def rownB (d : ND) (n : Nat) (k0 : Int) : Bool :=
 if d.kind = 0 then litB d.v && decide (n = 0) && decide ({ zeroND with v:=d.v,kind:=d.kind } = d)
 else if d.kind = 1 ∨ d.kind = 3 then d.a.row && d.a.col && decide (n = 0) && decide ({ zeroND with a:=d.a,kind:=d.kind } = d)
 else if d.kind = 2 then rangeB d.a d.b && decide (n = 0) && decide ({ zeroND with a:=d.a,b:=d.b,kind:=d.kind } = d)
 else if d.kind = 4 then isCallB d.name && decide (n ≤ 32) && !decide (n = 1 ∧ k0 = 9) && decide ({ zeroND with name:=d.name,kind:=d.kind } = d)
 else if d.kind = 5 then unaryB d.name && decide (n = 1) && decide ({ zeroND with name:=d.name,kind:=d.kind } = d)
 else if d.kind = 6 then binaryB d.name && decide (n = 2) && decide ({ zeroND with name:=d.name,kind:=d.kind } = d)
 else if d.kind = 7 then isNameB d.name && decide (n = 0) && decide ({ zeroND with name:=d.name,kind:=d.kind } = d)
 else if d.kind = 8 then decide (1 ≤ d.rows) && decide (1 ≤ n) && decide ((n : Int) % d.rows = 0) && decide ({ zeroND with rows:=d.rows,kind:=d.kind } = d)
 else if d.kind = 9 then decide (n = 0) && decide ({ zeroND with kind:=d.kind } = d)
 else false
mutual
def rrightB : Tr → Bool → Bool
 | .mk d l,call => rownB d l.length (kind0 l) && (decide (d.kind ≠ 9) || call) && rrightsB d.kind l
def rrightsB (k : Int) : List Tr → Bool
 | [] => true
 | t :: ts => (!(decide (k = 8) && decide (t.d.kind ≠ 0)) && !(decide (k ≠ 8) && belowB t.d) && rrightB t (decide (k = 4))) && rrightsB k ts
end
theorem rrights_append (k : Int) : ∀ (l m : List Tr),rrightsB k (l ++ m) = (rrightsB k l && rrightsB k m)
 | [],m => by simp [rrightsB]
 | t :: l,m => by simp only [List.cons_append,rrightsB,rrights_append k l m,Bool.and_assoc]
theorem nd_comm (a b : ND) : decide (a = b) = decide (b = a):=decide_eq_decide.2 eq_comm
theorem dec_and (p q : Prop) [Decidable p] [Decidable q] : decide (p ∧ q) = (decide q && decide p):=by rw [Bool.decide_and,Bool.and_comm]
theorem own_rown (d : ND) (n : Nat) (k0 above : Int) : ownB d n k0 above = (rownB d n k0 && (decide (d.kind ≠ 9) || decide (above = 4)) && (decide (above = 8) || !belowB d)):=by
 obtain ⟨kind,v,name,a,q,rows⟩:=d
 unfold ownB rownB
 dsimp only
 by_cases k0' : kind = 0
 · subst k0'
   rw [if_pos rfl,if_pos rfl,dec_and,nd_comm]
   have hbl : belowB ⟨0,v,name,a,q,rows⟩ = (decide (v.k = 1) && decide (v.mant < 0)):=by unfold belowB; simp
   rw [hbl,show decide ((0 : Int) ≠ 9) = true from rfl]
   unfold litRight litB
   have hb : (decide (v.k ≠ 0) && valRight v) = true → v.mant < 0 → v.k = 1:=by
    intro h hm
    unfold valRight at h
    rw [Bool.and_eq_true,decide_eq_true_eq] at h
    obtain ⟨h0,h⟩:=h
    rw [if_neg h0] at h
    by_cases h1 : v.k = 1
    · exact h1
    rw [if_neg h1] at h
    exfalso
    by_cases h2 : v.k = 2
    · rw [if_pos h2] at h
      have h:=of_decide_eq_true h
      unfold textV badV at h
      split at h <;> (have:=congrArg Vl.mant h; dsimp only at this; omega)
    rw [if_neg h2] at h
    by_cases h3 : v.k = 3
    · rw [if_pos h3] at h
      have h:=of_decide_eq_true h
      unfold truthV at h
      have:=congrArg Vl.mant h; dsimp only at this; omega
    rw [if_neg h3] at h
    by_cases h4 : v.k = 4
    · rw [if_pos h4] at h
      have h:=of_decide_eq_true h
      unfold badV at h
      have:=congrArg Vl.mant h; dsimp only at this; omega
    rw [if_neg h4] at h
    cases h
   have key : ((decide (v.k ≠ 0) && valRight v) && (decide (above = 8) || decide (0 ≤ v.mant))) = ((decide (v.k ≠ 0) && valRight v) && (decide (above = 8) || !(decide (v.k = 1) && decide (v.mant < 0)))):=by
    cases hlv : (decide (v.k ≠ 0) && valRight v)
    · rfl
    · have hb':=hb hlv
      by_cases hm : v.mant < 0
      · rw [decide_eq_true (hb' hm),decide_eq_true hm,decide_eq_false (p:=0 ≤ v.mant) (by omega)]; rfl
      · rw [decide_eq_false (p:=v.mant < 0) hm,decide_eq_true (p:=0 ≤ v.mant) (by omega)]; simp
   rw [key]
   generalize (decide (v.k ≠ 0) && valRight v) = x1
   generalize (decide (above = 8) || !(decide (v.k = 1) && decide (v.mant < 0))) = x2
   generalize decide (n = 0) = x3
   generalize decide (above = 4) = x4
   generalize decide (({ zeroND with v:=v,kind:=0 } : ND) = ⟨0,v,name,a,q,rows⟩) = x5
   cases x1 <;> cases x2 <;> cases x3 <;> cases x4 <;> cases x5 <;> rfl
 rw [if_neg k0',if_neg k0']
 have hbel : belowB ⟨kind,v,name,a,q,rows⟩ = false:=by unfold belowB; simp [k0']
 rw [hbel]
 simp only [Bool.not_false,Bool.or_true,Bool.and_true]
 by_cases k1 : kind = 1 ∨ kind = 3
 · rw [if_pos k1,if_pos k1,dec_and,nd_comm,decide_eq_true (p:=kind ≠ 9) (by omega)]
   simp only [Bool.true_or,Bool.and_true,Bool.and_assoc]
 rw [if_neg k1,if_neg k1]
 by_cases k2 : kind = 2
 · rw [if_pos k2,if_pos k2,dec_and,nd_comm,decide_eq_true (p:=kind ≠ 9) (by omega)]
   simp only [Bool.true_or,Bool.and_true,Bool.and_assoc]
 rw [if_neg k2,if_neg k2]
 by_cases k4 : kind = 4
 · rw [if_pos k4,if_pos k4,nd_comm,decide_eq_true (p:=kind ≠ 9) (by omega)]
   simp only [Bool.true_or,Bool.and_true,Bool.and_assoc]
 rw [if_neg k4,if_neg k4]
 by_cases k5 : kind = 5
 · rw [if_pos k5,if_pos k5,nd_comm,decide_eq_true (p:=kind ≠ 9) (by omega)]
   simp only [Bool.true_or,Bool.and_true,Bool.and_assoc]
 rw [if_neg k5,if_neg k5]
 by_cases k6 : kind = 6
 · rw [if_pos k6,if_pos k6,nd_comm,decide_eq_true (p:=kind ≠ 9) (by omega)]
   simp only [Bool.true_or,Bool.and_true,Bool.and_assoc]
 rw [if_neg k6,if_neg k6]
 by_cases k7 : kind = 7
 · rw [if_pos k7,if_pos k7,dec_and,nd_comm,decide_eq_true (p:=kind ≠ 9) (by omega)]
   simp only [Bool.true_or,Bool.and_true,Bool.and_assoc]
 rw [if_neg k7,if_neg k7]
 by_cases k8 : kind = 8
 · rw [if_pos k8,if_pos k8,nd_comm,decide_eq_true (p:=kind ≠ 9) (by omega)]
   simp only [Bool.true_or,Bool.and_true,Bool.and_assoc]
 rw [if_neg k8,if_neg k8]
 by_cases k9 : kind = 9
 · rw [if_pos k9,if_pos k9,dec_and,nd_comm,decide_eq_false (p:=kind ≠ 9) (by omega)]
   simp only [Bool.false_or]
   rw [Bool.and_comm]
 rw [if_neg k9,if_neg k9]
 rfl
theorem right_rright (t : Tr) : ∀ above : Int,rightB t above = (rrightB t (decide (above = 4)) && (decide (above = 8) || !belowB t.d)):=by
 induction t using Tr.ind with
 | _ d l ih =>
  intro above
  have hl : rightsB d.kind l = rrightsB d.kind l:=by
   induction l with
   | nil => rfl
   | cons t ts ih2 =>
    simp only [rightsB,rrightsB]
    rw [ih2 (fun t' h => ih t' (by simp [h])),ih t (by simp) d.kind]
    congr 1
    by_cases h8 : d.kind = 8
    · simp [h8]
    · simp [h8,Bool.and_comm]
  simp only [rightB,rrightB,Tr.d]
  rw [own_rown,hl]
  generalize rownB d l.length (kind0 l) = x1
  generalize rrightsB d.kind l = x2
  generalize (decide (d.kind ≠ 9) || decide (above = 4)) = x3
  generalize (decide (above = 8) || !belowB d) = x4
  cases x1 <;> cases x2 <;> cases x3 <;> cases x4 <;> rfl
def rcheckI (t : Tr) : Int:=if 256 < t.size then 5 else if 32 < t.depth then 8 else if belowB t.d = true ∨ rrightB t false = false then 6 else 0
theorem rcheck_eq (t : Tr) : rcheckI t = checkI t:=by
 unfold rcheckI checkI
 split
 · rfl
 split
 · rfl
 rw [right_rright]
 have e1 : decide ((6 : Int) = 4) = false:=by decide
 have e2 : decide ((6 : Int) = 8) = false:=by decide
 rw [e1,e2]
 cases rrightB t false <;> cases belowB t.d <;> simp
end Go.Proofs.YtjobojfaocihfaaGreat
namespace Go.Proofs.YtjobojfaocihfaaGreat
open Go.RowKit Go.Sort
theorem row_range {w : World} {g : Nat} {cs : Array Value} {t : TypeId} {fr : Nat × Nat} (h : w.heap[g]? = some (.cells cs t fr)) : w.rangeAt g 0 cs.toList:=by
 intro j v hv
 simp only [World.cell?,h]
 simpa using hv
theorem range_regrown {w : World} {b o : Nat} {cs : List Value} (h : w.rangeAt b o cs) (d : Nat) (os : Array Obj) : (grow (redrawn w d) os).rangeAt b o cs :=
 fun j v hv => cell_regrown (h j v hv) d os
theorem quiet_mid {P : Program} {a : Act} {w : World} {o : Oper} {K : Act → Prop} (ty : TypeId) (x : Operand) (ho : o.op = .load ty x)
 (b off : Nat) (hx : a.eval x = .pointer (some ⟨b,off,none⟩)) (cs : List Value) (d : TypeDesc) (hc : w.rangeAt b off cs)
 (hu : P.underlying ty = some d) (hd : d.isRow = true) (hi : (P.info? ty).map (·.size) = some cs.length)
 (hk : K (a.put o.dst (.agg cs.toArray))) : o.quiet P a (fun w' => ∃ p : Regrown,w' = grow (redrawn w p.d) p.os) K:=by
 refine ⟨.agg cs.toArray,fun w' hw' => ?_,hk⟩
 obtain ⟨p,rfl⟩:=hw'
 unfold Oper.quietAt execOp
 simp only [ho,hx,Instr.loadAt,Instr.sureAddr,Sem.run_bind,Sem.run_pure,Result.andThen_ok,run_loadVar_mid _ b off ty cs d (range_regrown hc p.d p.os) hu hd hi]
 exact ⟨rfl,rfl⟩
theorem quiet_row {P : Program} {a : Act} {w : World} {o : Oper} {K : Act → Prop} (ty : TypeId) (x : Operand) (ho : o.op = .load ty x)
 (g : Nat) (hx : a.eval x = .pointer (some ⟨g,0,none⟩)) (t : TypeId) (cs : Array Value) (fr : Nat × Nat) (d : TypeDesc) (hg : w.heap[g]? = some (.cells cs t fr))
 (hu : P.underlying ty = some d) (hd : d.isRow = true) (hi : (P.info? ty).map (·.size) = some cs.size)
 (hk : K (a.put o.dst (.agg cs))) : o.quiet P a (fun w' => ∃ p : Regrown,w' = grow (redrawn w p.d) p.os) K:=by
 have:=quiet_mid (P:=P) (w:=w) (K:=K) ty x ho g 0 hx cs.toList d (row_range hg) hu hd (by simpa using hi)
 rw [Array.toArray_toList] at this
 exact this hk
end Go.Proofs.YtjobojfaocihfaaGreat
namespace Go.Proofs.YtjobojfaocihfaaGreat
set_option maxRecDepth 100000
set_option maxHeartbeats 4000000
open Go.RowKit Go.Shelf Go.Sort Go.BigFrame
theorem rown_any (w : World) (B : Nat) (d : ND) (l : List Tr) (A : Option Addr) (c : Nat) (hd : d.ok) (hs : SlAt w B A c l) (hB : B ≤ w.heap.size) :
 Calls Tryz.prog 136 #[nodeV d A l.length c] w fun e w' => e = .returned (.bool (rownB d l.length (kind0 l))) ∧ Below w.heap.size w w':=by
 have hs':=hs.more hB
 have hk0 : l.length = 1 → ∃ kb ko,A = some ⟨kb,ko,none⟩ ∧ kb < w.heap.size ∧ w.cell? ⟨kb,ko,none⟩ = some (.int .i64 (kind0 l)):=by
  intro h1
  obtain ⟨b,o,hA,hn⟩:=hs'.at_ 0 (by omega)
  obtain ⟨hb,_,A2,c2,hc,_⟩:=hn.open_
  refine ⟨b,o,hA,hb,?_⟩
  have:=hc.all.1
  rw [Nat.zero_mul,Nat.add_zero] at this
  rw [this]
  match l,h1 with
  | [t],_ => rfl
 obtain ⟨kind,v,name,a,q,rows⟩:=d
 obtain ⟨h1,h2,h3,h4,h5,h6⟩:=id hd
 have z0 : i64 0:=by unfold i64; omega
 have zc : zeroCn.ok:=⟨z0,z0,z0,z0⟩
 have zv : zeroV.ok:=⟨z0,z0,z0,by decide,z0⟩
 have zn : noBytes.size ≤ 9223372036854775807:=by decide
 unfold rownB
 dsimp only at h1 h2 h3 h4 h5 h6 ⊢
 by_cases k0 : kind = 0
 · subst k0
   rw [if_pos rfl]
   exact rown0 w v name a q rows A l.length c _ hd (own_sameF w _ _ l A c hd ⟨h1,h2,zn,zc,zc,z0⟩ hs')
 rw [if_neg k0]
 by_cases k1 : kind = 1
 · subst k1
   rw [if_pos (.inl rfl)]
   exact rown1 w v name a q rows A l.length c _ hd (own_sameF w _ _ l A c hd ⟨h1,zv,zn,h4,zc,z0⟩ hs')
 by_cases k3 : kind = 3
 · subst k3
   rw [if_pos (.inr rfl)]
   exact rown3 w v name a q rows A l.length c _ hd (own_sameF w _ _ l A c hd ⟨h1,zv,zn,h4,zc,z0⟩ hs')
 rw [if_neg (by omega)]
 by_cases k2 : kind = 2
 · subst k2
   rw [if_pos rfl]
   exact rown2 w v name a q rows A l.length c _ hd (own_sameF w _ _ l A c hd ⟨h1,zv,zn,h4,h5,z0⟩ hs')
 rw [if_neg k2]
 by_cases k4 : kind = 4
 · subst k4
   rw [if_pos rfl]
   exact rown4 w v name a q rows A l.length c _ hd (kind0 l) hk0 (own_sameF w _ _ l A c hd ⟨h1,zv,h3,zc,zc,z0⟩ hs')
 rw [if_neg k4]
 by_cases k5 : kind = 5
 · subst k5
   rw [if_pos rfl]
   exact rown5 w v name a q rows A l.length c _ hd (own_sameF w _ _ l A c hd ⟨h1,zv,h3,zc,zc,z0⟩ hs')
 rw [if_neg k5]
 by_cases k6 : kind = 6
 · subst k6
   rw [if_pos rfl]
   exact rown6 w v name a q rows A l.length c _ hd (own_sameF w _ _ l A c hd ⟨h1,zv,h3,zc,zc,z0⟩ hs')
 rw [if_neg k6]
 by_cases k7 : kind = 7
 · subst k7
   rw [if_pos rfl]
   exact rown7 w v name a q rows A l.length c _ hd (own_sameF w _ _ l A c hd ⟨h1,zv,h3,zc,zc,z0⟩ hs')
 rw [if_neg k7]
 by_cases k8 : kind = 8
 · subst k8
   rw [if_pos rfl]
   exact rown8 w v name a q rows A l.length c _ hd (own_sameF w _ _ l A c hd ⟨h1,zv,zn,zc,zc,h6⟩ hs')
 rw [if_neg k8]
 by_cases k9 : kind = 9
 · subst k9
   rw [if_pos rfl]
   exact rown9 w v name a q rows A l.length c _ hd (own_sameF w _ _ l A c hd ⟨h1,zv,zn,zc,zc,z0⟩ hs')
 rw [if_neg k9]
 exact rown10 w kind _ rfl A l.length c rfl (by omega)
theorem rrights_step {k : Int} {l : List Tr} {i : Nat} (hi : i < l.length) (h : rrightsB k (l.take i) = true) : rrightsB k (l.take (i + 1)) = (!(decide (k = 8) && decide (l[i].d.kind ≠ 0)) && !(decide (k ≠ 8) && belowB l[i].d) && rrightB l[i] (decide (k = 4))):=by
 rw [List.take_succ_eq_append_getElem hi,rrights_append,h]; simp [rrightsB]
theorem rrights_no {k : Int} {l : List Tr} {i : Nat} (hi : i < l.length) (h : (!(decide (k = 8) && decide (l[i].d.kind ≠ 0)) && !(decide (k ≠ 8) && belowB l[i].d) && rrightB l[i] (decide (k = 4))) = false) : rrightsB k l = false:=by
 rw [← List.take_append_drop i l,rrights_append,List.drop_eq_getElem_cons hi]
 simp only [rrightsB,h,Bool.false_and,Bool.and_false]
theorem rright_c (t : Tr) : ∀ (w : World) (B : Nat) (A : Option Addr) (c : Nat) (call : Bool) (_ : t.d.ok) (_ : SlAt w B A c t.l) (_ : B ≤ w.heap.size),
 Calls Tryz.prog 101 #[nodeV t.d A t.l.length c,.bool call] w fun e w' => e = .returned (.bool (rrightB t call)) ∧ Below w.heap.size w w':=by
 induction t using Tr.ind with | _ d l ih => ?_
 intro w B A c call hd hs hB
 have IH:=Jh ih
 have HS:=Jh hs
 dsimp only [Tr.d,Tr.l] at HS hd hs ⊢
 have hO:=fun wx (hx : Below w.heap.size w wx) => rown_any wx B d l A c hd (hs.below (hx.mono hB)) (by have:=hx.size; omega)
 clear ih hs hd
 obtain ⟨r,hr⟩ : ∃ r,rrightB (.mk d l) call = r:=⟨_,rfl⟩
 rw [hr]
 simp only [rrightB] at hr
 obtain ⟨n,hn⟩ : ∃ n,l.length = n:=⟨_,rfl⟩
 obtain ⟨N,hN⟩ : ∃ N,N = nodeA d A n c:=⟨_,rfl⟩
 rw [hn] at hr hO
 simp only [nodeV,hn,← hN] at hO ⊢
 have hsl:=HS.out.1
 have hsc:=HS.out.2.1
 rw [hn] at hsl
 have hN21 : N[21]? = some (.slice A n c):=by rw [hN]; rfl
 obtain ⟨kd,hkd⟩ : ∃ kd,d.kind = kd:=⟨_,rfl⟩
 have hN0 : N[0]? = some (.int .i64 kd):=by rw [hN,← hkd]; rfl
 have hNs : N.size = 22:=by rw [hN]; rfl
 have hinf:=infN
 rw [← hNs] at hinf
 rw [hkd] at hr
 obtain ⟨W,hW⟩ : ∃ W,W = w.alloc (.cells N 54):=⟨_,rfl⟩
 have hbW : Below w.heap.size w W:=by rw [hW]; exact (Below.refl _ w).alloc (Nat.le_refl _) _
 have hsz : w.heap.size + 1 = W.heap.size:=by rw [hW]; simp
 have hkW : W.heap[w.heap.size]? = some (.cells N 54):=by rw [hW]; exact World.alloc_heap_new w _
 have haft : ∀ wx,Below W.heap.size W wx → Below w.heap.size w wx ∧ wx.cell? ⟨w.heap.size,0,none⟩ = some (.int .i64 kd) ∧ wx.cell? ⟨w.heap.size,21,none⟩ = some (.slice A n c):=fun wx hx => by
  have hk : wx.heap[w.heap.size]? = some (.cells N 54):=(hx.block _ (by omega)).trans hkW
  exact ⟨hbW.trans (hx.mono (by omega)),by rw [Lib.cell_of_heap hk]; exact hN0,by rw [Lib.cell_of_heap hk]; exact hN21⟩
 obtain ⟨r0,hr0⟩ : ∃ r0,rownB d n (kind0 l) = r0:=⟨_,rfl⟩
 rw [hr0] at hO hr
 have HO:=Jh hO
 have HR:=Jh hr
 have HN:=Jh hn
 have HIN:=Jh hinf
 have HW:=Jh hW
 have HA:=Jh haft
 have HKW:=Jh hkW
 have HBW:=Jh hbW
 clear hO hr hn hN hinf hW haft hkW hbW hN21 hN0 hNs hr0 hkd hsz
 cases r0
 · go_enter Tryz.func101,Tryz.ntmps101
   go_upto_region 1 with (fail)
   (try simp only [Act.put,List.setIfInBounds_toArray,List.set_cons_zero,List.set_cons_succ])
   rw [← HW.out]
   go_wp2_with (first | (refine wpList_row rfl 54 _ rfl w.heap.size rfl 54 N (0,0) _ HKW.out undN rfl HIN.out ?_) | (go_at_call 136; refine (HO.out _ HBW.out).mono ?_; rintro e w2 ⟨rfl,hbe⟩))
   go_ret
   exact ⟨ret_bool (by rw [← HR.out]; rfl),HBW.out.trans (hbe.mono HBW.out.size)⟩
 by_cases h9 : kd = 9 ∧ call = false
 · obtain ⟨rfl,rfl⟩:=h9
   go_enter Tryz.func101,Tryz.ntmps101
   go_upto_region 1 with (fail)
   (try simp only [Act.put,List.setIfInBounds_toArray,List.set_cons_zero,List.set_cons_succ])
   rw [← HW.out]
   go_wp2_with (first | (refine wpList_row rfl 54 _ rfl w.heap.size rfl 54 N (0,0) _ HKW.out undN rfl HIN.out ?_) | (go_at_call 136; refine (HO.out _ HBW.out).mono ?_; rintro e w2 ⟨rfl,hbe⟩; obtain ⟨hb2,hc0,hc21⟩:=HA.out w2 hbe))
   go_ret
   exact ⟨ret_bool (by rw [← HR.out]; rfl),hb2⟩
 have hr2 : r = rrightsB kd l:=by
  rw [← HR.out]
  by_cases h : kd = 9
  · have hc : call = true:=by cases call with | true => rfl | false => exact absurd ⟨h,rfl⟩ h9
    rw [hc]; simp
  · simp [h]
 have HR2:=Jh hr2
 clear HR hr2
 obtain ⟨b9,hb9⟩ : ∃ b,(kd == 9) = b:=⟨_,rfl⟩
 have hb9' : decide (kd = 9) = b9:=by rw [← hb9]; rfl
 have hcall : b9 = true → call = true:=by
  intro h
  rw [h] at hb9
  have h9' : kd = 9:=by simpa using hb9
  cases call with | true => rfl | false => exact absurd ⟨h9',rfl⟩ h9
 clear h9
 have HX:=Jh hcall
 clear hcall
 cases b9
 case' true =>
  obtain rfl:=HX.out rfl
 all_goals clear HX
 all_goals
  go_enter Tryz.func101,Tryz.ntmps101
  go_upto_region 1 with (fail)
  (try simp only [Act.put,List.setIfInBounds_toArray,List.set_cons_zero,List.set_cons_succ])
  rw [← HW.out]
  go_wp2_with (first | (refine wpList_row rfl 54 _ rfl w.heap.size rfl 54 N (0,0) _ HKW.out undN rfl HIN.out ?_) | (go_at_call 136; refine (HO.out _ HBW.out).mono ?_; rintro e w2 ⟨rfl,hbe⟩; obtain ⟨hb2,hc0,hc21⟩:=HA.out w2 hbe))
  clear hb9 hb9' hc0 hc21 hb2
  have HBE:=Jh hbe
  clear hbe
  go_loopw [5] (fun i wr => ∃ j : Nat,j ≤ n ∧ i = .int .i64 j ∧ Hid (rrightsB kd (l.take j) = true) ∧ Hid (Below W.heap.size W wr)) (fun i _ => n - (intOf i).toNat)
  case atStart => exact ⟨0,Nat.zero_le _,rfl,Jh (by simp [rrightsB]),HBE⟩
  case round =>
   obtain ⟨j,hj,rfl,hacc,hbr⟩:=hrel
   obtain ⟨hfin,hc0,hc21⟩:=HA.out wr hbr.out
   have HFI:=Jh hfin
   by_cases hlt : j < n
   · have hjl : j < l.length:=by rw [HN.out]; exact hlt
     obtain ⟨b2,o2,hA,hkn⟩:=HS.out.at_ j hjl
     subst hA
     obtain ⟨hkb,hkdok,A2,c2,hkc,hks⟩:=hkn.open_
     have hkid:=fun wx (hx : Below w.heap.size w wx) => IH.out l[j] (List.getElem_mem hjl) wx B A2 c2 (decide (kd = 4)) hkdok (hks.below (hx.mono hB)) (by have:=hx.size; omega)
     have hbel:=fun wx => rbelow_any wx l[j].d A2 l[j].l.length c2
     obtain ⟨cs,hcs,hcl,hrg⟩:=hkc.range (w':=wr) (fun p hp => hfin.cell (by omega))
     have hkk : wr.cell? ⟨b2,o2 + j * 22,none⟩ = some (.int .i64 l[j].d.kind):=(hfin.cell (p:=⟨b2,o2 + j * 22,none⟩) (by show b2 < _; omega)).trans hkc.all.1
     simp only [nodeV,← hcs] at hkid hbel
     obtain ⟨kk,hkke⟩ : ∃ kk,l[j].d.kind = kk:=⟨_,rfl⟩
     have hstep:=fun h => rrights_step (k:=kd) hjl h
     have hno:=fun h => rrights_no (k:=kd) hjl h
     rw [hkke] at hkk hstep hno
     obtain ⟨bl,hbl⟩ : ∃ b,belowB l[j].d = b:=⟨_,rfl⟩
     obtain ⟨rk,hrk⟩ : ∃ b,rrightB l[j] (decide (kd = 4)) = b:=⟨_,rfl⟩
     rw [hbl] at hbel hstep hno
     rw [hrk] at hkid hstep hno
     obtain ⟨b4,hb4⟩ : ∃ b,decide (kd = 4) = b:=⟨_,rfl⟩
     rw [hb4] at hkid
     have hb4' : (kd == 4) = b4:=by rw [← hb4]; rfl
     have hq0 : ∀ d os,(grow (redrawn wr d) os).cell? ⟨w.heap.size,0,none⟩ = some (.int .i64 kd):=fun d os => cell_regrown hc0 d os
     have hq21 : ∀ d os,(grow (redrawn wr d) os).cell? ⟨w.heap.size,21,none⟩ = some (.slice (some ⟨b2,o2,none⟩) n c):=fun d os => cell_regrown hc21 d os
     have hqk : ∀ d os,(grow (redrawn wr d) os).cell? ⟨b2,o2 + j * 22,none⟩ = some (.int .i64 kk):=fun d os => cell_regrown hkk d os
     have hkid' : ∀ d os,Calls Tryz.prog 101 #[.agg cs.toArray,.bool b4] (grow (redrawn wr d) os) fun e w'' => e = .returned (.bool rk) ∧ ∃ p : Regrown,w'' = grow (redrawn wr p.d) p.os:=fun d os =>
      Calls.regrown_of (hkid _ (hfin.trans ((below_regrown wr d os).mono hfin.size)))
     have hbel' : ∀ d os,Calls Tryz.prog 100 #[.agg cs.toArray] (grow (redrawn wr d) os) fun e w'' => e = .returned (.bool bl) ∧ ∃ p : Regrown,w'' = grow (redrawn wr p.d) p.os:=fun d os =>
      Calls.regrown_of (hbel _)
     have HKI:=Jh hkid'
     have HBL:=Jh hbel'
     have HRG:=Jh hrg
     have HST:=Jh hstep
     have HNO:=Jh hno
     have hcl' : Hid ((Tryz.prog.info? 54).map (·.size) = some cs.length):=Jh (by rw [hcl]; exact infN)
     have hj1 : (j : Int) < (n : Int):=by omega
     have hj0 : (0 : Int) ≤ (j : Int):=by omega
     clear hkn hkb hkdok hkc hks hkid hkid' hbel hbel' hrg hcs hcl hkke hstep hno hbl hrk hfin hkk
     by_cases h8 : kd = 8
     · subst h8
       by_cases hk0 : kk = 0
       · subst hk0
         cases rk
         all_goals
          go_wp2
          refine wp_region_quiet_below (by kernel_rfl) (by kernel_rfl) ?_
          repeat (first
           | (go_big_quiet_want; refine quiet_mid 54 _ rfl b2 (o2 + j * 22) rfl cs _ HRG.out undN rfl hcl'.out ?_; simp only [Act.put,List.setIfInBounds_toArray,List.set_cons_zero,List.set_cons_succ]; go_big_quiet_on)
           | go_big_quiet_step (first | with_reducible exact HBL.out _ _ | with_reducible exact HKI.out _ _))
          refine wpQuiet_nil ?_
          rintro w4 ⟨⟨dq,osq⟩,hq4⟩
          have hb5 : Below wr.heap.size wr w4:=by rw [hq4]; exact below_regrown wr dq osq
          clear hq4
          go_wp2
         · go_ret
           exact ⟨ret_bool (by rw [HR2.out]; exact (HNO.out (by simp)).symm),HFI.out.trans (hb5.mono HFI.out.size)⟩
         · go_roundw
           case rel => exact ⟨j + 1,by omega,by go_num,Jh ((HST.out hacc.out).trans (by simp)),Jh (hbr.out.trans (hb5.mono hbr.out.size))⟩
           case measure => simp [intOf]; omega
       · have q1 : (kk != 0) = true:=by simpa using hk0
         have q2 : decide (kk = 0) = false:=by simpa using hk0
         have hno':=HNO.out (by simp [hk0])
         have HNN:=Jh hno'
         clear hk0 hno'
         go_wp2
         refine wp_region_quiet_below (by kernel_rfl) (by kernel_rfl) ?_
         repeat (first
          | (go_big_quiet_want; refine quiet_mid 54 _ rfl b2 (o2 + j * 22) rfl cs _ HRG.out undN rfl hcl'.out ?_; simp only [Act.put,List.setIfInBounds_toArray,List.set_cons_zero,List.set_cons_succ]; go_big_quiet_on)
          | go_big_quiet_step (first | with_reducible exact HBL.out _ _ | with_reducible exact HKI.out _ _))
         refine wpQuiet_nil ?_
         rintro w4 ⟨⟨dq,osq⟩,hq4⟩
         have hb5 : Below wr.heap.size wr w4:=by rw [hq4]; exact below_regrown wr dq osq
         clear hq4
         go_wp2
         go_ret
         exact ⟨ret_bool (by rw [HR2.out]; exact HNN.out.symm),HFI.out.trans (hb5.mono HFI.out.size)⟩
     · have q1 : (kd == 8) = false:=by simpa using h8
       have q2 : (kd != 8) = true:=by simpa using h8
       have q3 : decide (kd = 8) = false:=by simpa using h8
       have hst' : rrightsB kd (List.take j l) = true → rrightsB kd (List.take (j + 1) l) = (!bl && rk):=fun h => (HST.out h).trans (by simp [h8])
       have hno' : (!bl && rk) = false → rrightsB kd l = false:=fun h => HNO.out (by rw [q3,decide_eq_true h8]; simpa using h)
       have HST2:=Jh hst'
       have HNO2:=Jh hno'
       clear h8 hst' hno'
       cases bl <;> cases rk
       all_goals
        go_wp2
        refine wp_region_quiet_below (by kernel_rfl) (by kernel_rfl) ?_
        repeat (first
         | (go_big_quiet_want; refine quiet_mid 54 _ rfl b2 (o2 + j * 22) rfl cs _ HRG.out undN rfl hcl'.out ?_; simp only [Act.put,List.setIfInBounds_toArray,List.set_cons_zero,List.set_cons_succ]; go_big_quiet_on)
         | go_big_quiet_step (first | with_reducible exact HBL.out _ _ | with_reducible exact HKI.out _ _))
        refine wpQuiet_nil ?_
        rintro w4 ⟨⟨dq,osq⟩,hq4⟩
        have hb5 : Below wr.heap.size wr w4:=by rw [hq4]; exact below_regrown wr dq osq
        clear hq4
        go_wp2
       · go_ret
         exact ⟨ret_bool (by rw [HR2.out]; exact (HNO2.out rfl).symm),HFI.out.trans (hb5.mono HFI.out.size)⟩
       · go_roundw
         case rel => exact ⟨j + 1,by omega,by go_num,Jh (HST2.out hacc.out),Jh (hbr.out.trans (hb5.mono hbr.out.size))⟩
         case measure => simp [intOf]; omega
       · go_ret
         exact ⟨ret_bool (by rw [HR2.out]; exact (HNO2.out rfl).symm),HFI.out.trans (hb5.mono HFI.out.size)⟩
       · go_ret
         exact ⟨ret_bool (by rw [HR2.out]; exact (HNO2.out rfl).symm),HFI.out.trans (hb5.mono HFI.out.size)⟩
   · obtain rfl : j = n:=by omega
     clear hc0
     go_wp2
     go_ret
     exact ⟨ret_bool (by rw [HR2.out,← hacc.out,← HN.out,List.take_length]),HFI.out⟩
end Go.Proofs.YtjobojfaocihfaaGreat
namespace Go.Proofs.YtjobojfaocihfaaGreat
set_option maxRecDepth 100000
set_option maxHeartbeats 2000000
open Go.RowKit Go.Shelf
def NodesPost (w : World) (B : Nat) (ts : List Tr) (e : Ending) (w' : World) : Prop :=
 ∃ g cap xs,e = .returned (.slice (some ⟨g,0,none⟩) ts.length cap) ∧ w'.ownsRow w.heap.size 54 22 (.slice (some ⟨g,0,none⟩) ts.length cap) ts.length xs ∧ NRow w B ts xs ∧ Below w.heap.size w w'
def RNodes (w : World) (B n : Nat) (d : ND) (l : List Tr) (A : Option Addr) (c : Nat) (v i : Value) (wr : World) : Prop :=
 ∃ j g cap xs N,j ≤ n ∧ i = .int .i64 (j : Nat) ∧ N = (Tr.mk d l :: Tr.nodess (l.take j)).length ∧ v = .slice (some ⟨g,0,none⟩) N cap ∧ wr.ownsRow (w.heap.size + 1) 54 22 (.slice (some ⟨g,0,none⟩) N cap) N xs ∧ NRow w B (Tr.mk d l :: Tr.nodess (l.take j)) xs ∧
  wr.cell? ⟨w.heap.size,21,none⟩ = some (.slice A n c) ∧ w.heap.size + 1 ≤ wr.heap.size ∧ Below w.heap.size w wr
theorem nodes_c (t : Tr) : ∀ (w : World) (B : Nat) (A : Option Addr) (c : Nat) (_ : t.d.ok) (_ : SlAt w B A c t.l) (_ : B ≤ w.heap.size) (_ : t.size ≤ 1048576),
 Calls Tryz.prog 67 #[nodeV t.d A t.l.length c] w (NodesPost w B t.nodes):=by
 induction t using Tr.ind with | _ d l ih => ?_
 intro w B A c hd hs hB hsz
 have IH:=Jh ih
 have HD:=Jh hd
 have HS:=Jh hs
 clear ih hd hs
 dsimp only [Tr.d,Tr.l] at HD HS ⊢
 rw [nodeV_eq]
 have hsl:=HS.out.1
 have hsc:=HS.out.2.1
 obtain ⟨n,hn⟩ : ∃ n,l.length = n:=⟨_,rfl⟩
 rw [hn] at hsl ⊢
 have HN:=Jh hn
 have hszl : Tr.sizes l + 1 ≤ 1048576:=by simpa [Tr.size] using hsz
 obtain ⟨ti,hti,hz0,hz1,hz2⟩:=info_parts infoN
 clear hn hsz
 go_enter Tryz.func67,Tryz.ntmps67
 go_wp2_with (refine wpList_load_row rfl 54 _ rfl w.heap.size rfl 54 _ (0,0) _ (World.alloc_heap_new w _) undN rfl infN ?_)
 go_loopw [3,4] (fun v i wr => RNodes w B n d l A c v i wr) (fun _ i _ => n - (intOf i).toNat)
 case atStart =>
  have hblk : ∀ o o' : Obj,((w.alloc o).alloc o').heap[w.heap.size + 1]? = some o':=fun o o' => by
   have:=World.alloc_heap_new (w.alloc o) o'; rwa [World.size_alloc] at this
  refine ⟨0,w.heap.size + 1,1,(nodeA d A n c).toList,1,Nat.zero_le _,rfl,by simp [Tr.nodess],rfl,?_,?_,?_,by simp,?_⟩
  · exact ⟨rfl,.inr ⟨w.heap.size + 1,1,nodeA d A n c,rfl,Nat.le_refl _,hblk _ _,Nat.le_refl _,by unfold maxLen; omega,rfl,rfl⟩⟩
  · simp only [NRow,Tr.nodess,List.take_zero]
    exact ⟨(nodeA d A n c).toList,[],by simp,⟨A,c,by rw [show (Tr.mk d l).l.length = n from HN.out]; rfl,HD.out,HS.out⟩,rfl⟩
  · exact (cell_of_row _ _ 21 _ _ _ ((heapOld _ _ _ (by simp)).trans (World.alloc_heap_new w _)))
  · exact ((Below.refl _ w).alloc (Nat.le_refl _) _).alloc (by simp) _
 case round =>
  obtain ⟨j,g,cap,xs,M,hj,rfl,hM,rfl,hown,hrow,hcell,hszw,hbel⟩:=hrel
  by_cases hlt : j < n
  · have hjl : j < l.length:=by rw [HN.out]; exact hlt
    obtain ⟨b2,o2,hA,hkn⟩:=HS.out.at_ j hjl
    subst hA
    obtain ⟨hkb,hkd,A2,c2,hkc,hks⟩:=hkn.open_
    have hst:=sizes_take hjl
    have hkid:=IH.out l[j] (List.getElem_mem hjl) wr B A2 c2 hkd (hks.below (hbel.mono hB)) (by have:=hbel.size; omega) (by omega)
    obtain ⟨cs,hcs,hcl,hrg⟩:=hkc.range (w':=wr) (fun p hp => hbel.cell (by omega))
    rw [nodeV,← hcs] at hkid
    have hinf:=infN
    rw [← hcl] at hinf
    have HRG:=Jh hrg
    have HIN:=Jh hinf
    have HK:=Jh hkid
    have HM:=Jh hM
    have HOW:=Jh hown
    have HRW:=Jh hrow
    have HBE:=Jh hbel
    have hMl : M ≤ 1 + Tr.sizes (l.take j):=by rw [hM,List.length_cons,nodess_len]; omega
    have hj1 : (j : Int) < (n : Int):=by omega
    have hj0 : (0 : Int) ≤ (j : Int):=by omega
    clear hinf hrg hcl hcs hkid hM hown hrow hbel hkn hkb hkd hkc hks
    go_wp2_with (first | (refine wpList_load_mid rfl 54 _ rfl b2 (o2 + j * 22) rfl cs _ HRG.out undN rfl HIN.out ?_) | (go_at_call 67; refine HK.out.mono ?_; rintro e w2 ⟨g2,cap2,ys,rfl,hown2,hrow2,hbe⟩; have HO2:=Jh hown2; have HR2:=Jh hrow2; have HB2:=Jh hbe; clear hown2 hrow2 hbe) | (at_builtin; refine wpList_append_own _ rfl _ _ 52 rfl (w.heap.size + 1) 54 ti _ 22 192 undNs hti hz0 hz1 hz2 rfl (by decide) _ M xs rfl (owns_below HOW.out HB2.out) ⟨g2,0,none⟩ _ cap2 ys rfl HR2.out.len (HO2.out.cells (g:=g2) rfl) HR2.out.one (by rw [nodes_len]; unfold maxLen; omega) (by rw [nodes_len]; omega) (by have:=HB2.out.size; omega) ?_; intro v' w3 hown3 hgrow hnil))
    obtain ⟨g3,cap3,cur3,rfl,-⟩:=own_form hown3 (by have:=l[j].size_pos; rw [nodes_len]; omega)
    have HO3:=Jh hown3
    have HG3:=Jh hgrow
    clear hown3 hgrow hnil
    go_wp2
    go_roundw
    case measure => simp [intOf]; omega
    case rel =>
     have hgb : w.heap.size + 1 ≤ g ∧ g < wr.heap.size:=HOW.out.lt g rfl
     have hne : (some w.heap.size : Option Nat) ≠ some g:=fun e => by have:=Option.some.inj e; omega
     have hge : ∀ k,(some g : Option Nat) = some k → w.heap.size ≤ k:=fun k e => by have:=Option.some.inj e; omega
     have hbw2 : Below w.heap.size w w2:=HBE.out.trans (HB2.out.mono HBE.out.size)
     have hgr:=HG3.out
     refine ⟨j + 1,g3,cap3,xs ++ ys,M + l[j].nodes.length,by omega,by go_num,?_,rfl,HO3.out,?_,?_,?_,?_⟩
     · rw [nodess_step hjl,HM.out]; simp only [List.length_cons,List.length_append]; omega
     · rw [nodess_step hjl,← List.cons_append]
       exact HRW.out.append (NRow.keep_rev hB HBE.out HR2.out)
     · refine (hgr.cell_far ⟨w.heap.size,21,none⟩ (by have:=HB2.out.size; simp; omega) hne).trans ((HB2.out.cell (p:=⟨w.heap.size,21,none⟩) (by simp; omega)).trans hcell)
     · have:=hgr.size; have:=HB2.out.size; omega
     · exact hbw2.grown hgr (by have:=hbw2.size; omega) hge
  · obtain rfl : j = n:=by omega
    have HM:=Jh hM
    have HOW:=Jh hown
    clear hM hown
    go_wp2
    go_ret
    rw [← HN.out,List.take_length] at HM hrow
    have hMe : M = (Tr.mk d l).nodes.length:=by rw [HM.out]; simp [Tr.nodes]
    subst hMe
    exact ⟨g,cap,xs,rfl,owns_base HOW.out (by omega),by simpa [Tr.nodes] using hrow,hbel⟩
end Go.Proofs.YtjobojfaocihfaaGreat
namespace Go.Proofs.YtjobojfaocihfaaGreat
set_option maxRecDepth 100000
set_option maxHeartbeats 2000000
open Go.RowKit Go.Shelf
def greatB (t : Tr) : Bool:=overB t 40 || decide (400 < t.size)
theorem great_c (t : Tr) (w : World) (B : Nat) (A : Option Addr) (c : Nat) (hd : t.d.ok) (hs : SlAt w B A c t.l) (hB : B ≤ w.heap.size) (hsz : t.size ≤ 1048576) :
 Calls Tryz.prog 29 #[nodeV t.d A t.l.length c] w fun e w' => e = .returned (.bool (greatB t)) ∧ Below w.heap.size w w':=by
 have hO:=fun wx (hx : Below w.heap.size w wx) => over_c t wx B A c 40 hd (hs.below (hx.mono hB)) (by have:=hx.size; omega) (by omega)
 have hN:=fun wx (hx : Below w.heap.size w wx) => nodes_c t wx B A c hd (hs.below (hx.mono hB)) (by have:=hx.size; omega) hsz
 unfold greatB
 rw [← nodes_len t]
 have hnl : t.nodes.length ≤ 1048576:=by rw [nodes_len]; exact hsz
 obtain ⟨N,hN0⟩ : ∃ N,N = nodeA t.d A t.l.length c:=⟨_,rfl⟩
 have hNs : N.size = 22:=by rw [hN0]; rfl
 simp only [nodeV,← hN0] at hO hN ⊢
 obtain ⟨r,hr⟩ : ∃ r,overB t 40 = r:=⟨_,rfl⟩
 rw [hr] at hO ⊢
 have hinf:=infN
 rw [← hNs] at hinf
 have HIN:=Jh hinf
 have HO:=Jh hO
 have HN:=Jh hN
 have hb0 : Below w.heap.size w (w.alloc (.cells N 54)):=(Below.refl _ w).alloc (Nat.le_refl _) _
 have HB:=Jh hb0
 clear hO hN hr hinf hb0 hNs hN0 hd hs hsz
 generalize t.nodes = ts at *
 cases r
 · go_enter Tryz.func29,Tryz.ntmps29
   go_wp2_with (first | (refine wpList_row rfl 54 _ rfl w.heap.size rfl 54 N (0,0) _ (World.alloc_heap_new w _) undN rfl HIN.out ?_) | (go_at_call 66; refine (HO.out _ HB.out).mono ?_; rintro e w2 ⟨rfl,hbe⟩; have hb2 : Below w.heap.size w w2:=HB.out.trans (hbe.mono (by simp)); have hg2 : w2.heap[w.heap.size]? = some (.cells N 54):=(hbe.block _ (by simp)).trans (World.alloc_heap_new w _); have HG2:=Jh hg2; clear hg2) | (refine wpList_row rfl 54 _ rfl w.heap.size rfl 54 N (0,0) _ HG2.out undN rfl HIN.out ?_) | (go_at_call 67; refine (HN.out _ hb2).mono ?_; rintro e w3 ⟨g,cap,xs,rfl,-,-,hbe3⟩))
   go_ret
   exact ⟨ret_bool (by rw [Bool.eq_iff_iff]; simp; omega),hb2.trans (hbe3.mono hb2.size)⟩
 · go_enter Tryz.func29,Tryz.ntmps29
   go_wp2_with (first | (refine wpList_row rfl 54 _ rfl w.heap.size rfl 54 N (0,0) _ (World.alloc_heap_new w _) undN rfl HIN.out ?_) | (go_at_call 66; refine (HO.out _ HB.out).mono ?_; rintro e w2 ⟨rfl,hbe⟩))
   go_ret
   exact ⟨rfl,HB.out.trans (hbe.mono (by simp))⟩
end Go.Proofs.YtjobojfaocihfaaGreat
namespace Go.Proofs.YtjobojfaocihfaaGreat
set_option maxRecDepth 100000
set_option maxHeartbeats 2000000
open Go.RowKit Go.Shelf
theorem ret_int {k : IntKind} {a b : Int} (h : a = b) : Ending.returned (.int k a) = .returned (.int k b):=by rw [h]
theorem depths_append : ∀ (l m : List Tr),Tr.depths (l ++ m) = max (Tr.depths l) (Tr.depths m)
 | [],m => by simp [Tr.depths]
 | t :: l,m => by simp only [List.cons_append,Tr.depths,depths_append l m]; omega
theorem depths_step {l : List Tr} {i : Nat} (hi : i < l.length) : Tr.depths (l.take (i + 1)) = max (Tr.depths (l.take i)) l[i].depth:=by
 rw [List.take_succ_eq_append_getElem hi,depths_append]; simp [Tr.depths]
theorem depth_le_size (t : Tr) : t.depth ≤ t.size:=by
 induction t using Tr.ind with
 | _ d l ih =>
  simp only [Tr.depth,Tr.size]
  have : Tr.depths l ≤ Tr.sizes l:=by
   induction l with
   | nil => simp [Tr.depths,Tr.sizes]
   | cons a l ih2 =>
    have h1:=ih a (by simp)
    have h2:=ih2 (fun t ht => ih t (by simp [ht]))
    simp only [Tr.depths,Tr.sizes]; omega
  omega
theorem depths_le_sizes (l : List Tr) : Tr.depths l ≤ Tr.sizes l:=by
 induction l with
 | nil => simp [Tr.depths,Tr.sizes]
 | cons a l ih2 =>
  have h1:=depth_le_size a
  simp only [Tr.depths,Tr.sizes]; omega
theorem rdepth_c (t : Tr) : ∀ (w : World) (B : Nat) (A : Option Addr) (c : Nat) (_ : t.d.ok) (_ : SlAt w B A c t.l) (_ : B ≤ w.heap.size) (_ : t.size ≤ 1048576),
 Calls Tryz.prog 99 #[nodeV t.d A t.l.length c] w fun e w' => e = .returned (.int .i64 t.depth) ∧ Below w.heap.size w w':=by
 induction t using Tr.ind with | _ d l ih => ?_
 intro w B A c hd hs hB hsz
 have IH:=Jh ih
 have HD:=Jh hd
 have HS:=Jh hs
 clear ih hd hs
 dsimp only [Tr.d,Tr.l] at HD HS ⊢
 obtain ⟨r,hr⟩ : ∃ r,Tr.depth (.mk d l) = r:=⟨_,rfl⟩
 rw [hr]
 simp only [Tr.depth] at hr
 obtain ⟨N,hN⟩ : ∃ N,N = nodeA d A l.length c:=⟨_,rfl⟩
 rw [nodeV,← hN]
 have hN21 : N[21]? = some (.slice A l.length c):=by rw [hN]; rfl
 have HR:=Jh hr
 have hsl:=HS.out.1
 have hsc:=HS.out.2.1
 obtain ⟨n,hn⟩ : ∃ n,l.length = n:=⟨_,rfl⟩
 rw [hn] at hN21 hsl
 have HN:=Jh hn
 have hszl : Tr.sizes l + 1 ≤ 1048576:=by simpa [Tr.size] using hsz
 clear hr hN hn hsz
 have HN21:=Jh hN21
 clear hN21
 go_enter Tryz.func99,Tryz.ntmps99
 go_wp2
 obtain ⟨W,hW⟩ : ∃ W,w.alloc (.cells N 54) = W:=⟨_,rfl⟩
 have hc21 : W.cell? ⟨w.heap.size,21,none⟩ = some (.slice A n c):=by rw [← hW]; exact (cell_of_row _ _ 21 _ _ _ (World.alloc_heap_new w _)).trans HN21.out
 have hbW : Below w.heap.size w W:=by rw [← hW]; exact (Below.refl _ w).alloc (Nat.le_refl _) _
 have hzW : W.heap.size = w.heap.size + 1:=by rw [← hW]; simp
 rw [hW]
 have HZ:=Jh hzW
 have HBW:=Jh hbW
 have HC:=Jh hc21
 clear hW hc21 hbW hzW
 go_loopw [3,4] (fun v i wr => ∃ j : Nat,j ≤ n ∧ i = .int .i64 j ∧ v = .int .i64 (Tr.depths (l.take j) : Nat) ∧ Below W.heap.size W wr) (fun _ i _ => n - (intOf i).toNat)
 case atStart => exact ⟨0,Nat.zero_le _,rfl,by simp [Tr.depths],Below.refl _ _⟩
 case round =>
  obtain ⟨j,hj,rfl,rfl,hbr⟩:=hrel
  have hc : wr.cell? ⟨w.heap.size,21,none⟩ = some (.slice A n c):=(hbr.cell (p:=⟨w.heap.size,21,none⟩) (by have:=HZ.out; simp; omega)).trans HC.out
  have hfin : Below w.heap.size w wr:=HBW.out.trans (hbr.mono (by have:=HZ.out; omega))
  have hdl : Tr.depths (l.take j) ≤ 1048576:=by
   have h1:=depths_le_sizes (l.take j)
   have h2 : Tr.sizes l = Tr.sizes (l.take j) + Tr.sizes (l.drop j):=by rw [← sizes_append,List.take_append_drop]
   omega
  by_cases hlt : j < n
  · have hjl : j < l.length:=by rw [HN.out]; exact hlt
    have hst:=sizes_take hjl
    obtain ⟨b2,o2,hA,hkn⟩:=HS.out.at_ j hjl
    subst hA
    obtain ⟨hkb,hkd,A2,c2,hkc,hks⟩:=hkn.open_
    have hkid:=IH.out l[j] (List.getElem_mem hjl) wr B A2 c2 hkd (hks.below (hfin.mono hB)) (by have:=hfin.size; omega) (by omega)
    obtain ⟨cs,hcs,hcl,hrg⟩:=hkc.range (w':=wr) (fun p hp => hfin.cell (by omega))
    rw [nodeV,← hcs] at hkid
    have hinf:=infN
    rw [← hcl] at hinf
    have hds:=depths_step hjl
    obtain ⟨dk,hdk⟩ : ∃ dk,l[j].depth = dk:=⟨_,rfl⟩
    obtain ⟨dd,hdd⟩ : ∃ dd,Tr.depths (l.take j) = dd:=⟨_,rfl⟩
    rw [hdk] at hkid hds
    rw [hdd] at hds hdl ⊢
    have hdk2 : dk ≤ 1048576:=by rw [← hdk]; have:=depth_le_size l[j]; omega
    have HRG:=Jh hrg
    have HIN:=Jh hinf
    have HK:=Jh hkid
    have HDS:=Jh hds
    have HWR:=Jh hbr
    have hj1 : (j : Int) < (n : Int):=by omega
    have hj0 : (0 : Int) ≤ (j : Int):=by omega
    clear hinf hrg hcl hcs hkid hkn hkb hkd hkc hks hbr hfin hds hdk hdd hst
    go_wp2_with (first | (refine wpList_load_mid rfl 54 _ rfl b2 (o2 + j * 22) rfl cs _ HRG.out undN rfl HIN.out ?_) | go_at_call 99; refine HK.out.mono ?_; rintro e w2 ⟨rfl,hbe⟩)
    all_goals
     go_roundw
     case rel => exact ⟨j + 1,by omega,by go_num,by rw [HDS.out]; go_num,HWR.out.trans (hbe.mono HWR.out.size)⟩
     case measure => simp [intOf]; omega
  · obtain rfl : j = n:=by omega
    obtain ⟨dd,hdd⟩ : ∃ dd,Tr.depths (l.take j) = dd:=⟨_,rfl⟩
    rw [hdd] at hdl ⊢
    have HDD:=Jh hdd
    clear hdd
    go_wp2
    go_ret
    exact ⟨ret_int (by rw [← HR.out,← HDD.out,← HN.out,List.take_length]; omega),hfin⟩
end Go.Proofs.YtjobojfaocihfaaGreat
namespace Go.Proofs.YtjobojfaocihfaaGreat
set_option maxRecDepth 100000
set_option maxHeartbeats 2000000
open Go.RowKit Go.Shelf
theorem rcheck_c (t : Tr) (w : World) (B : Nat) (A : Option Addr) (c : Nat) (hd : t.d.ok) (hs : SlAt w B A c t.l) (hB : B ≤ w.heap.size) (hsz : t.size ≤ 1048576) :
 Calls Tryz.prog 71 #[nodeV t.d A t.l.length c] w fun e w' => e = .returned (.int .i64 (checkI t)) ∧ Below w.heap.size w w':=by
 rw [← rcheck_eq]
 have hN:=fun wx (hx : Below w.heap.size w wx) => nodes_c t wx B A c hd (hs.below (hx.mono hB)) (by have:=hx.size; omega) hsz
 have hD:=fun wx (hx : Below w.heap.size w wx) => rdepth_c t wx B A c hd (hs.below (hx.mono hB)) (by have:=hx.size; omega) hsz
 have hL:=fun wx => rbelow_any wx t.d A t.l.length c
 have hR:=fun wx (hx : Below w.heap.size w wx) => rright_c t wx B A c false hd (hs.below (hx.mono hB)) (by have:=hx.size; omega)
 have hnl : t.nodes.length = t.size:=nodes_len t
 obtain ⟨ts,hts⟩ : ∃ ts,t.nodes = ts:=⟨_,rfl⟩
 rw [hts] at hN hnl
 obtain ⟨N,hN0⟩ : ∃ N,N = nodeA t.d A t.l.length c:=⟨_,rfl⟩
 have hNs : N.size = 22:=by rw [hN0]; rfl
 simp only [nodeV,← hN0] at hN hD hL hR ⊢
 have hdl : t.depth ≤ t.size:=depth_le_size t
 obtain ⟨r,hr⟩ : ∃ r,r = rcheckI t:=⟨_,rfl⟩
 rw [← hr]
 unfold rcheckI at hr
 obtain ⟨sz,hsze⟩ : ∃ s,t.size = s:=⟨_,rfl⟩
 obtain ⟨dp,hdpe⟩ : ∃ s,t.depth = s:=⟨_,rfl⟩
 obtain ⟨bl,hble⟩ : ∃ s,belowB t.d = s:=⟨_,rfl⟩
 obtain ⟨rk,hrke⟩ : ∃ s,rrightB t false = s:=⟨_,rfl⟩
 rw [hsze] at hr hsz hdl
 rw [hsze] at hnl
 rw [hdpe] at hr hdl hD
 rw [hble] at hr hL
 rw [hrke] at hr hR
 have hinf:=infN
 rw [← hNs] at hinf
 obtain ⟨W,hW⟩ : ∃ W,W = w.alloc (.cells N 54):=⟨_,rfl⟩
 have hbW : Below w.heap.size w W:=by rw [hW]; exact (Below.refl _ w).alloc (Nat.le_refl _) _
 have hkW : W.heap[w.heap.size]? = some (.cells N 54):=by rw [hW]; exact World.alloc_heap_new w _
 have hsW : w.heap.size + 1 = W.heap.size:=by rw [hW]; simp
 have haft : ∀ wx,Below W.heap.size W wx → Below w.heap.size w wx ∧ wx.heap[w.heap.size]? = some (.cells N 54):=fun wx hx => ⟨hbW.trans (hx.mono (by omega)),(hx.block _ (by omega)).trans hkW⟩
 have HN:=Jh hN
 have HNL:=Jh hnl
 have HD:=Jh hD
 have HL:=Jh hL
 have HR:=Jh hR
 have HRR:=Jh hr
 have HIN:=Jh hinf
 have HW:=Jh hW
 have HA:=Jh haft
 have HKW:=Jh hkW
 have HBW:=Jh hbW
 clear hts hN hD hL hR hr hinf hW haft hkW hbW hsW hNs hN0 hsze hdpe hble hrke hnl hs hd
 go_enter Tryz.func71,Tryz.ntmps71
 go_upto_region 1 with (fail)
 (try simp only [Act.put,List.setIfInBounds_toArray,List.set_cons_zero,List.set_cons_succ])
 rw [← HW.out]
 go_wp2_with (first | (refine wpList_row rfl 54 _ rfl w.heap.size rfl 54 N (0,0) _ HKW.out undN rfl HIN.out ?_) | fail)
 refine (HN.out _ HBW.out).mono ?_
 rintro e w2 ⟨g,cap,xs,rfl,-,-,hbe2⟩
 rw [HNL.out]
 have hw2 : Below W.heap.size W w2:=hbe2
 obtain ⟨hb2,hk2⟩:=HA.out w2 hw2
 have HK2:=Jh hk2
 have HB2:=Jh hb2
 have HW2:=Jh hw2
 clear hbe2 hw2 hb2 hk2
 by_cases c1 : 256 < sz
 · go_wp2
   go_ret
   exact ⟨by rw [HRR.out,if_pos c1]; rfl,HB2.out⟩
 have h1 : r = if 32 < dp then 8 else if bl = true ∨ rk = false then 6 else 0:=by rw [HRR.out,if_neg c1]
 have H1:=Jh h1
 clear h1
 go_wp2_with (first | (refine wpList_row rfl 54 _ rfl w.heap.size rfl 54 N (0,0) _ HK2.out undN rfl HIN.out ?_) | fail)
 refine (HD.out _ HB2.out).mono ?_
 rintro e w3 ⟨rfl,hbe3⟩
 have hw3 : Below W.heap.size W w3:=HW2.out.trans (hbe3.mono HW2.out.size)
 obtain ⟨hb3,hk3⟩:=HA.out w3 hw3
 have HK3:=Jh hk3
 have HB3:=Jh hb3
 have HW3:=Jh hw3
 clear hbe3 hw3 hb3 hk3
 by_cases c2 : 32 < dp
 · go_wp2
   go_ret
   exact ⟨by rw [H1.out,if_pos c2]; rfl,HB3.out⟩
 have h2 : r = if bl = true ∨ rk = false then 6 else 0:=by rw [H1.out,if_neg c2]
 have H2:=Jh h2
 clear h2
 go_wp2_with (first | (refine wpList_row rfl 54 _ rfl w.heap.size rfl 54 N (0,0) _ HK3.out undN rfl HIN.out ?_) | fail)
 refine (HL.out _).mono ?_
 rintro e w4 ⟨rfl,hbe4⟩
 have hw4 : Below W.heap.size W w4:=HW3.out.trans (hbe4.mono HW3.out.size)
 obtain ⟨hb4,hk4⟩:=HA.out w4 hw4
 have HK4:=Jh hk4
 have HB4:=Jh hb4
 clear hbe4 hw4 hb4 hk4
 cases bl
 · go_wp2_with (first | (refine wpList_row rfl 54 _ rfl w.heap.size rfl 54 N (0,0) _ HK4.out undN rfl HIN.out ?_) | fail)
   refine (HR.out _ HB4.out).mono ?_
   rintro e w5 ⟨rfl,hbe5⟩
   have hb5:=HB4.out.trans (hbe5.mono HB4.out.size)
   cases rk
   · go_wp2
     go_ret
     exact ⟨by rw [H2.out]; rfl,hb5⟩
   · go_wp2
     go_ret
     exact ⟨by rw [H2.out]; rfl,hb5⟩
 · go_wp2
   go_ret
   exact ⟨by rw [H2.out]; rfl,HB4.out⟩
end Go.Proofs.YtjobojfaocihfaaGreat
namespace Go.Proofs.YtjobojfaocihfaaGreat
set_option maxRecDepth 100000
set_option maxHeartbeats 2000000
open Go Go.RowKit Go.Shelf
theorem r2_any (v : Vl) (hv : v.ok) (w : World) : Calls Tryz.prog 70 #[.agg v.cells.toArray] w fun e w' => e = .returned (.bool (r2 v)) ∧ Below w.heap.size w w':=by
 obtain ⟨k,m,x,s,b,f⟩:=v
 have hm : i64 m:=hv.2.1
 have hs : s.size ≤ 9223372036854775807:=hv.2.2.2.1
 by_cases h0 : k = 0
 · subst h0; exact r2_0 m x f s b hm hs w
 by_cases h1 : k = 1
 · subst h1; exact r2_1 m x f s b hm hs w
 by_cases h2 : k = 2
 · subst h2; exact r2_2 m x f s b hm hs w
 by_cases h3 : k = 3
 · subst h3; exact r2_3 m x f s b hm hs w
 by_cases h4 : k = 4
 · subst h4; exact r2_4 m x f s b hm hs w
 exact r2_no k h0 h1 h2 h3 h4 m x f s b hm hs w
theorem nil_bytes (s : ByteArray) : s.toList = [] ↔ s = noBytes:=by
 have e : noBytes.toList = []:=by unfold noBytes; rw [ByteArray.toList_eq]
 rw [← str_eq,e]
theorem r2_eq (v : Vl) : r2 v = valRight v:=by
 obtain ⟨k,m,x,s,b,f⟩:=v
 unfold r2 valRight
 simp only [ne_eq,nil_bytes]
 by_cases h0 : k = 0
 · subst h0
   rw [Bool.eq_iff_iff]
   simp [zeroV]
   grind
 by_cases h1 : k = 1
 · subst h1
   rw [Bool.eq_iff_iff]
   simp [ofV]
   grind
 by_cases h2 : k = 2
 · subst h2
   rw [Bool.eq_iff_iff]
   simp [textV,badV]
   grind
 by_cases h3 : k = 3
 · subst h3
   rw [Bool.eq_iff_iff]
   simp [truthV]
   grind
 by_cases h4 : k = 4
 · subst h4
   rw [Bool.eq_iff_iff]
   simp [badV]
   grind
 rw [Bool.eq_iff_iff]
 simp [h0,h1,h2,h3,h4]
theorem rblank_c (v : Vl) (w : World) : Calls Tryz.prog 68 #[.agg v.cells.toArray] w fun e w' => e = .returned (.bool (decide (v = zVl))) ∧ Below w.heap.size w w':=by
 have hE : ∀ wx,(Op.equalIn 10000 47 (.agg v.cells.toArray) (.agg zVl.cells.toArray)).run Tryz.prog wx = .ok (decide (v = zVl)) wx:=fun wx => eqV wx v zVl
 obtain ⟨r,hr⟩ : ∃ r,decide (v = zVl) = r:=⟨_,rfl⟩
 rw [hr] at hE ⊢
 obtain ⟨k,m,x,s,b,f⟩:=v
 dsimp only [zVl,Vl.cells] at hE ⊢
 clear hr
 go_enter Tryz.func68,Tryz.ntmps68
 go_wp2
 go_ret
 exact ⟨rfl,(Below.refl _ w).alloc (Nat.le_refl _) _⟩
theorem rbare_c (t : Tr) (w : World) (B : Nat) (A : Option Addr) (c : Nat) (hd : t.d.ok) (hs : SlAt w B A c t.l) (hB : B ≤ w.heap.size) :
 Calls Tryz.prog 69 #[nodeV t.d A t.l.length c] w fun e w' => e = .returned (.bool (sameB t zTr)) ∧ Below w.heap.size w w':=by
 have hb0 : Below w.heap.size w (w.alloc (.cells (nodeA t.d A t.l.length c) 54)):=(Below.refl _ w).alloc (Nat.le_refl _) _
 have hS : Calls Tryz.prog 28 #[nodeV t.d A t.l.length c,.agg (nodeA zNd none 0 0)] (w.alloc (.cells (nodeA t.d A t.l.length c) 54)) fun e w' => e = .returned (.bool (sameB t zTr)) ∧ Below (w.alloc (.cells (nodeA t.d A t.l.length c) 54)).heap.size (w.alloc (.cells (nodeA t.d A t.l.length c) 54)) w' :=
  rsame_c t zTr _ B A none c 0 hd (hs.below (hb0.mono hB)) zNd_ok (slAt_nil _ _) (by rw [World.size_alloc]; omega)
 obtain ⟨N,hN⟩ : ∃ N,N = nodeA t.d A t.l.length c:=⟨_,rfl⟩
 have hNs : N.size = 22:=by rw [hN]; rfl
 have hinf:=infN
 rw [← hNs] at hinf
 rw [nodeV,← hN] at hS
 rw [nodeV,← hN]
 rw [← hN] at hb0
 obtain ⟨r,hr⟩ : ∃ r,sameB t zTr = r:=⟨_,rfl⟩
 rw [hr] at hS ⊢
 have HS:=Jh hS
 have HI:=Jh hinf
 have HB:=Jh hb0
 clear hS hinf hb0 hN hNs hr hd hs hB
 go_enter Tryz.func69,Tryz.ntmps69
 go_wp2_with (first | (refine wpList_row rfl 54 _ rfl w.heap.size rfl 54 N (0,0) _ (World.alloc_heap_new w _) undN rfl HI.out ?_) | (go_at_call 28; refine HS.out.mono ?_; rintro e w2 ⟨rfl,hbe⟩))
 go_ret
 exact ⟨rfl,HB.out.trans (hbe.mono HB.out.size)⟩
theorem right18_eq (x : Ct) : rightC x = (if x.k = 0 then decide (x.v = zVl) && sameB x.t zTr else if x.k = 1 then decide (x.v.k ≠ 0) && (r2 x.v && sameB x.t zTr) else if x.k = 2 then decide (x.v = zVl) && decide (checkI x.t = 0) else false):=by
 unfold rightC sameC
 rw [r2_eq]
 split
 · rename_i h
   rw [decide_eq_true (show x.k = zCt.k from h),Bool.true_and]
   rfl
 · split
   · cases sameB x.t zTr <;> cases valRight x.v <;> simp
   · rfl
theorem rright18_c (x : Ct) (w : World) (B : Nat) (A : Option Addr) (c : Nat) (hv : x.v.ok) (hd : x.t.d.ok) (hs : SlAt w B A c x.t.l) (hB : B ≤ w.heap.size) (hsz : x.t.size ≤ 1048576) :
 Calls Tryz.prog 30 #[contV x A c] w fun e w' => e = .returned (.bool (rightC x)) ∧ Below w.heap.size w w':=by
 obtain ⟨W0,hW0⟩ : ∃ W0,W0 = w.alloc (.cells (contA x A c) 56):=⟨_,rfl⟩
 have hbel : Below w.heap.size w W0:=by rw [hW0]; exact (Below.refl _ w).alloc (Nat.le_refl _) _
 have hz0 : W0.heap.size = w.heap.size + 1:=by rw [hW0]; simp
 have hk0 : W0.heap[w.heap.size]? = some (.cells (contA x A c) 56):=by rw [hW0]; exact heap_alloc_new _ _
 have hsl : ∀ wx,Below W0.heap.size W0 wx → SlAt wx B A c x.t.l:=fun wx hx => (hs.below (hbel.mono hB)).below (hx.mono (by omega))
 have hT : ∀ wx,Below W0.heap.size W0 wx → Calls Tryz.prog 69 #[nodeV x.t.d A x.t.l.length c] wx fun e w' => e = .returned (.bool (sameB x.t zTr)) ∧ Below wx.heap.size wx w':=fun wx hx => rbare_c x.t wx B A c hd (hsl wx hx) (by have:=hx.size; omega)
 have hV:=fun wx => r2_any x.v hv wx
 have hE:=fun wx => rblank_c x.v wx
 have hC:=fun wx (hx : Below W0.heap.size W0 wx) => rcheck_c x.t wx B A c hd (hsl wx hx) (by have:=hx.size; omega) hsz
 have hrow:=fun wx (hx : Below W0.heap.size W0 wx) => cont_row ((hx.block w.heap.size (by omega)).trans hk0)
 obtain ⟨CA,hCA⟩ : ∃ C,C = contA x A c:=⟨_,rfl⟩
 rw [contV,← hCA]
 rw [← hCA] at hW0 hk0
 have hinf:=infNl x.t.d A x.t.l.length c
 have hiv:=infVl x.v
 have hic:=infC
 rw [show (29 : Nat) = CA.size by rw [hCA]; rfl] at hic
 obtain ⟨b,hb⟩ : ∃ b,b = w.heap.size:=⟨_,rfl⟩
 have e0:=(hrow W0 (Below.refl _ _)).1
 have hr1:=fun wx hx => (hrow wx hx).2.1
 have hvk : ∀ wx,Below W0.heap.size W0 wx → wx.cell? ⟨w.heap.size,1,none⟩ = some (.int .i64 x.v.k):=fun wx hx => hr1 wx hx 0 _ rfl
 have hr7:=fun wx hx => (hrow wx hx).2.2
 rw [nodeV] at hT
 obtain ⟨r,hr⟩ : ∃ r,rightC x = r:=⟨_,rfl⟩
 rw [hr]
 rw [right18_eq] at hr
 obtain ⟨N,hN⟩ : ∃ N,N = nodeA x.t.d A x.t.l.length c:=⟨_,rfl⟩
 rw [nodeV,← hN] at hC
 rw [← hN] at hT hr7 hinf
 clear hrow hd hs hCA hN hv hsl
 obtain ⟨k,v,t⟩:=x
 dsimp only at hT hV e0 hr1 hr7 hr hinf hiv hC hE hvk
 obtain ⟨vc,hvc⟩ : ∃ u,u = v.cells:=⟨_,rfl⟩
 rw [← hvc] at hr1 hiv hE hV
 rw [← hb] at e0 hr1 hr7 hz0 hvk hk0
 have HT:=Jh hT
 have HV:=Jh hV
 have HE:=Jh hE
 have HC:=Jh hC
 have HI:=Jh hinf
 have HJ:=Jh hiv
 have HIC:=Jh hic
 have HR1:=Jh hr1
 have HR7:=Jh hr7
 have HR:=Jh hr
 have HW:=Jh hW0
 have HK0:=Jh hk0
 have HBL:=Jh hbel
 have HVK:=Jh hvk
 clear hT hV hE hC hinf hiv hic hr1 hr7 hr hW0 hvc hbel hk0 hvk
 have HB:=Jh hb
 have hb00 : Below W0.heap.size W0 W0:=Below.refl _ _
 clear hb
 by_cases k0 : k = 0
 · subst k0
   have hr:=HR.out
   rw [if_pos rfl] at hr
   have HR2:=Jh hr
   clear hr
   cases ev : decide (v = zVl) with
   | false =>
    have HE1:=Jh (by have:=HE.out W0; rw [ev] at this; exact this)
    go_enter Tryz.func30,Tryz.ntmps30
    go_upto_region 1 with (fail)
    rw [← HW.out,← HB.out]
    go_wp2_with (first | (refine wpList_mid rfl 47 _ rfl b 1 rfl vc _ (HR1.out _ hb00) undVl rfl HJ.out ?_) | (go_at_call 68; refine HE1.out.mono ?_; rintro e w2 ⟨rfl,hbe⟩))
    go_ret
    exact ⟨ret_bool (by rw [← HR2.out,ev]; rfl),HBL.out.trans (hbe.mono HBL.out.size)⟩
   | true =>
    have HE1:=Jh (by have:=HE.out W0; rw [ev] at this; exact this)
    go_enter Tryz.func30,Tryz.ntmps30
    go_upto_region 1 with (fail)
    rw [← HW.out,← HB.out]
    go_wp2_with (first | (refine wpList_mid rfl 47 _ rfl b 1 rfl vc _ (HR1.out _ hb00) undVl rfl HJ.out ?_) | (go_at_call 68; refine HE1.out.mono ?_; rintro e w2 ⟨rfl,hbe⟩) | (refine wpList_mid rfl 54 _ rfl b 7 rfl N.toList _ (HR7.out _ hbe) undN rfl HI.out ?_; simp only [Array.toArray_toList]) | (go_at_call 69; refine (HT.out _ hbe).mono ?_; rintro e w3 ⟨rfl,hb3⟩))
    go_ret
    exact ⟨ret_bool (by rw [← HR2.out,ev]; rfl),HBL.out.trans ((hbe.trans (hb3.mono hbe.size)).mono HBL.out.size)⟩
 have q0 : (k == 0) = false:=by simpa using k0
 by_cases k1 : k = 1
 · subst k1
   have hr:=HR.out
   rw [if_neg (by decide),if_pos rfl] at hr
   have HR2:=Jh hr
   clear hr
   have hvk0:=HVK.out _ hb00
   by_cases vk : v.k = 0
   · have qv : (v.k != 0) = false:=by simpa using vk
     have HVZ:=Jh vk
     clear vk
     go_enter Tryz.func30,Tryz.ntmps30
     go_upto_region 1 with (fail)
     rw [← HW.out,← HB.out]
     go_wp2
     go_ret
     exact ⟨ret_bool (by rw [← HR2.out]; simp [HVZ.out]),HBL.out⟩
   · have qv : (v.k != 0) = true:=by simpa using vk
     have HVZ:=Jh vk
     clear vk
     cases er : r2 v with
     | false =>
      have HV1:=Jh (by have:=HV.out W0; rw [er] at this; exact this)
      go_enter Tryz.func30,Tryz.ntmps30
      go_upto_region 1 with (fail)
      rw [← HW.out,← HB.out]
      go_wp2_with (first | (refine wpList_mid rfl 47 _ rfl b 1 rfl vc _ (HR1.out _ hb00) undVl rfl HJ.out ?_) | (go_at_call 70; refine HV1.out.mono ?_; rintro e w2 ⟨rfl,hbe⟩))
      go_ret
      exact ⟨ret_bool (by rw [← HR2.out,er]; simp),HBL.out.trans (hbe.mono HBL.out.size)⟩
     | true =>
      have HV1:=Jh (by have:=HV.out W0; rw [er] at this; exact this)
      go_enter Tryz.func30,Tryz.ntmps30
      go_upto_region 1 with (fail)
      rw [← HW.out,← HB.out]
      go_wp2_with (first | (refine wpList_mid rfl 47 _ rfl b 1 rfl vc _ (HR1.out _ hb00) undVl rfl HJ.out ?_) | (go_at_call 70; refine HV1.out.mono ?_; rintro e w2 ⟨rfl,hbe⟩) | (refine wpList_mid rfl 54 _ rfl b 7 rfl N.toList _ (HR7.out _ hbe) undN rfl HI.out ?_; simp only [Array.toArray_toList]) | (go_at_call 69; refine (HT.out _ hbe).mono ?_; rintro e w3 ⟨rfl,hb3⟩))
      go_ret
      exact ⟨ret_bool (by rw [← HR2.out,er]; simp [HVZ.out]),HBL.out.trans ((hbe.trans (hb3.mono hbe.size)).mono HBL.out.size)⟩
 have q1 : (k == 1) = false:=by simpa using k1
 by_cases k2 : k = 2
 · subst k2
   have hr:=HR.out
   rw [if_neg (by decide),if_neg (by decide),if_pos rfl] at hr
   have HR2:=Jh hr
   clear hr
   cases ev : decide (v = zVl) with
   | false =>
    have HE1:=Jh (by have:=HE.out W0; rw [ev] at this; exact this)
    go_enter Tryz.func30,Tryz.ntmps30
    go_upto_region 1 with (fail)
    rw [← HW.out,← HB.out]
    go_wp2_with (first | (refine wpList_mid rfl 47 _ rfl b 1 rfl vc _ (HR1.out _ hb00) undVl rfl HJ.out ?_) | (go_at_call 68; refine HE1.out.mono ?_; rintro e w2 ⟨rfl,hbe⟩))
    go_ret
    exact ⟨ret_bool (by rw [← HR2.out,ev]; rfl),HBL.out.trans (hbe.mono HBL.out.size)⟩
   | true =>
    have HE1:=Jh (by have:=HE.out W0; rw [ev] at this; exact this)
    obtain ⟨ck,hck⟩ : ∃ ck,checkI t = ck:=⟨_,rfl⟩
    have HCK:=Jh hck
    rw [hck] at HC
    clear hck
    by_cases ec : ck = 0
    · subst ec
      go_enter Tryz.func30,Tryz.ntmps30
      go_upto_region 1 with (fail)
      rw [← HW.out,← HB.out]
      go_wp2_with (first | (refine wpList_mid rfl 47 _ rfl b 1 rfl vc _ (HR1.out _ hb00) undVl rfl HJ.out ?_) | (go_at_call 68; refine HE1.out.mono ?_; rintro e w2 ⟨rfl,hbe⟩) | (refine wpList_mid rfl 54 _ rfl b 7 rfl N.toList _ (HR7.out _ hbe) undN rfl HI.out ?_; simp only [Array.toArray_toList]) | (go_at_call 71; refine (HC.out _ hbe).mono ?_; rintro e w3 ⟨rfl,hb3⟩))
      go_ret
      exact ⟨ret_bool (by rw [← HR2.out,ev,HCK.out]; rfl),HBL.out.trans ((hbe.trans (hb3.mono hbe.size)).mono HBL.out.size)⟩
    · have qc : (ck == 0) = false:=by simpa using ec
      have HEC:=Jh ec
      clear ec
      go_enter Tryz.func30,Tryz.ntmps30
      go_upto_region 1 with (fail)
      rw [← HW.out,← HB.out]
      go_wp2_with (first | (refine wpList_mid rfl 47 _ rfl b 1 rfl vc _ (HR1.out _ hb00) undVl rfl HJ.out ?_) | (go_at_call 68; refine HE1.out.mono ?_; rintro e w2 ⟨rfl,hbe⟩) | (refine wpList_mid rfl 54 _ rfl b 7 rfl N.toList _ (HR7.out _ hbe) undN rfl HI.out ?_; simp only [Array.toArray_toList]) | (go_at_call 71; refine (HC.out _ hbe).mono ?_; rintro e w3 ⟨rfl,hb3⟩))
      go_ret
      exact ⟨ret_bool (by rw [← HR2.out,ev,HCK.out]; simp [HEC.out]),HBL.out.trans ((hbe.trans (hb3.mono hbe.size)).mono HBL.out.size)⟩
 have q2 : (k == 2) = false:=by simpa using k2
 have hr:=HR.out
 rw [if_neg k0,if_neg k1,if_neg k2] at hr
 have HR2:=Jh hr
 clear hr
 go_enter Tryz.func30,Tryz.ntmps30
 go_upto_region 1 with (fail)
 rw [← HW.out,← HB.out]
 go_wp2
 go_ret
 exact ⟨ret_bool HR2.out,HBL.out⟩
end Go.Proofs.YtjobojfaocihfaaGreat
