/- counterpaneref06.right: the plain law. Regions that draw their order,whose operations read and whose callees make memory alone: loads of whole rows in such a walk. No program in sight. counterpaneref06.own,right,Check. The reference's Great. The reference's Depth. counterpaneref06.Check. -/
import Derived.Test.YtbkmnboicihchaaGreatFhTz0
import Derived.Test.YtbkmnboicihchaaGreatFdM
import Derived.Test.YtbkmnboicihchaaGreatRiCk
import Derived.Test.YtbkmnboicihchaaGreatIoIpSrQdQvGiCu
import Derived.Lib.QuietBelow
import Derived.BigQuiet
import Derived.Test.YtbkmnboicihchaaGreatFi4M
import Derived.Test.YtbkmnboicihchaaGreatFi8M
import Derived.Test.YtbkmnboicihchaaGreatFi9M
import Derived.Test.YtbkmnboicihchaaGreatOvNo
namespace Go.Proofs.YtbkmnboicihchaaGreat
open Go.RowKit Go.Shelf
def rownB (d : ND) (n : Nat) (k0 : Int) : Bool :=
 if d.kind = 0 then litB d.v && decide (n = 0) && decide ({ zeroND with v:=d.v,kind:=d.kind } = d)
 else if d.kind = 1 ∨ d.kind = 3 then d.a.row && d.a.col && decide (n = 0) && decide ({ zeroND with a:=d.a,kind:=d.kind } = d)
 else if d.kind = 2 then rangeB d.a d.b && decide (n = 0) && decide ({ zeroND with a:=d.a,b:=d.b,kind:=d.kind } = d)
 else if d.kind = 4 then isCallB d.name && decide (n ≤ 32) && !decide (n = 1 ∧ k0 = 9) && decide ({ zeroND with name:=d.name,kind:=d.kind } = d)
 else if d.kind = 5 then unaryB d.name && decide (n = 1) && decide ({ zeroND with name:=d.name,kind:=d.kind } = d)
 else if d.kind = 6 then binaryB d.name && decide (n = 2) && decide ({ zeroND with name:=d.name,kind:=d.kind } = d)
 else if d.kind = 7 then isNameB d.name && decide (n = 0) && decide ({ zeroND with name:=d.name,kind:=d.kind } = d)
 else if d.kind = 8 then decide (1 ≤ d.rows) && decide (1 ≤ n) && decide ((n : Int) % d.rows = 0) && decide ({ zeroND with rows:=d.rows,kind:=d.kind } = d)
 else if d.kind = 9 then decide (n = 0) && decide ({ zeroND with kind:=d.kind } = d)
 else false
mutual
def rrightB : Tr → Bool → Bool
 | .mk d l,call => rownB d l.length (kind0 l) && (decide (d.kind ≠ 9) || call) && rrightsB d.kind l
def rrightsB (k : Int) : List Tr → Bool
 | [] => true
 | t :: ts => (!(decide (k = 8) && decide (t.d.kind ≠ 0)) && !(decide (k ≠ 8) && belowB t.d) && rrightB t (decide (k = 4))) && rrightsB k ts
end
theorem rrights_append (k : Int) : ∀ (l m : List Tr),rrightsB k (l ++ m) = (rrightsB k l && rrightsB k m)
 | [],m => by simp [rrightsB]
 | t :: l,m => by simp only [List.cons_append,rrightsB,rrights_append k l m,Bool.and_assoc]
theorem nd_comm (a b : ND) : decide (a = b) = decide (b = a):=decide_eq_decide.2 eq_comm
theorem dec_and (p q : Prop) [Decidable p] [Decidable q] : decide (p ∧ q) = (decide q && decide p):=by rw [Bool.decide_and,Bool.and_comm]
theorem own_rown (d : ND) (n : Nat) (k0 above : Int) : ownB d n k0 above = (rownB d n k0 && (decide (d.kind ≠ 9) || decide (above = 4)) && (decide (above = 8) || !belowB d)):=by
 obtain ⟨kind,v,name,a,q,rows⟩:=d
 unfold ownB rownB
 dsimp only
 by_cases k0' : kind = 0
 · subst k0'
   rw [if_pos rfl,if_pos rfl,dec_and,nd_comm]
   have hbl : belowB ⟨0,v,name,a,q,rows⟩ = (decide (v.k = 1) && decide (v.mant < 0)):=by unfold belowB; simp
   rw [hbl,show decide ((0 : Int) ≠ 9) = true from rfl]
   unfold litRight litB
   have hb : (decide (v.k ≠ 0) && valRight v) = true → v.mant < 0 → v.k = 1:=by
     intro h hm
     unfold valRight at h
     rw [Bool.and_eq_true,decide_eq_true_eq] at h
     obtain ⟨h0,h⟩:=h
     rw [if_neg h0] at h
     by_cases h1 : v.k = 1
     · exact h1
     rw [if_neg h1] at h
     exfalso
     by_cases h2 : v.k = 2
     · rw [if_pos h2] at h
       have h:=of_decide_eq_true h
       unfold textV badV at h
       split at h <;> (have:=congrArg Vl.mant h; dsimp only at this; omega)
     rw [if_neg h2] at h
     by_cases h3 : v.k = 3
     · rw [if_pos h3] at h
       have h:=of_decide_eq_true h
       unfold truthV at h
       have:=congrArg Vl.mant h; dsimp only at this; omega
     rw [if_neg h3] at h
     by_cases h4 : v.k = 4
     · rw [if_pos h4] at h
       have h:=of_decide_eq_true h
       unfold badV at h
       have:=congrArg Vl.mant h; dsimp only at this; omega
     rw [if_neg h4] at h
     cases h
   have key : ((decide (v.k ≠ 0) && valRight v) && (decide (above = 8) || decide (0 ≤ v.mant))) = ((decide (v.k ≠ 0) && valRight v) && (decide (above = 8) || !(decide (v.k = 1) && decide (v.mant < 0)))):=by
     cases hlv : (decide (v.k ≠ 0) && valRight v)
     · rfl
     · have hb':=hb hlv
       by_cases hm : v.mant < 0
       · rw [decide_eq_true (hb' hm),decide_eq_true hm,decide_eq_false (p:=0 ≤ v.mant) (by omega)]; rfl
       · rw [decide_eq_false (p:=v.mant < 0) hm,decide_eq_true (p:=0 ≤ v.mant) (by omega)]; simp
   rw [key]
   generalize (decide (v.k ≠ 0) && valRight v) = x1
   generalize (decide (above = 8) || !(decide (v.k = 1) && decide (v.mant < 0))) = x2
   generalize decide (n = 0) = x3
   generalize decide (above = 4) = x4
   generalize decide (({ zeroND with v:=v,kind:=0 } : ND) = ⟨0,v,name,a,q,rows⟩) = x5
   cases x1 <;> cases x2 <;> cases x3 <;> cases x4 <;> cases x5 <;> rfl
 rw [if_neg k0',if_neg k0']
 have hbel : belowB ⟨kind,v,name,a,q,rows⟩ = false:=by unfold belowB; simp [k0']
 rw [hbel]
 simp only [Bool.not_false,Bool.or_true,Bool.and_true]
 by_cases k1 : kind = 1 ∨ kind = 3
 · rw [if_pos k1,if_pos k1,dec_and,nd_comm,decide_eq_true (p:=kind ≠ 9) (by omega)]
   simp only [Bool.true_or,Bool.and_true,Bool.and_assoc]
 rw [if_neg k1,if_neg k1]
 by_cases k2 : kind = 2
 · rw [if_pos k2,if_pos k2,dec_and,nd_comm,decide_eq_true (p:=kind ≠ 9) (by omega)]
   simp only [Bool.true_or,Bool.and_true,Bool.and_assoc]
 rw [if_neg k2,if_neg k2]
 by_cases k4 : kind = 4
 · rw [if_pos k4,if_pos k4,nd_comm,decide_eq_true (p:=kind ≠ 9) (by omega)]
   simp only [Bool.true_or,Bool.and_true,Bool.and_assoc]
 rw [if_neg k4,if_neg k4]
 by_cases k5 : kind = 5
 · rw [if_pos k5,if_pos k5,nd_comm,decide_eq_true (p:=kind ≠ 9) (by omega)]
   simp only [Bool.true_or,Bool.and_true,Bool.and_assoc]
 rw [if_neg k5,if_neg k5]
 by_cases k6 : kind = 6
 · rw [if_pos k6,if_pos k6,nd_comm,decide_eq_true (p:=kind ≠ 9) (by omega)]
   simp only [Bool.true_or,Bool.and_true,Bool.and_assoc]
 rw [if_neg k6,if_neg k6]
 by_cases k7 : kind = 7
 · rw [if_pos k7,if_pos k7,dec_and,nd_comm,decide_eq_true (p:=kind ≠ 9) (by omega)]
   simp only [Bool.true_or,Bool.and_true,Bool.and_assoc]
 rw [if_neg k7,if_neg k7]
 by_cases k8 : kind = 8
 · rw [if_pos k8,if_pos k8,nd_comm,decide_eq_true (p:=kind ≠ 9) (by omega)]
   simp only [Bool.true_or,Bool.and_true,Bool.and_assoc]
 rw [if_neg k8,if_neg k8]
 by_cases k9 : kind = 9
 · rw [if_pos k9,if_pos k9,dec_and,nd_comm,decide_eq_false (p:=kind ≠ 9) (by omega)]
   simp only [Bool.false_or]
   rw [Bool.and_comm]
 rw [if_neg k9,if_neg k9]
 rfl
theorem right_rright (t : Tr) : ∀ above : Int,rightB t above = (rrightB t (decide (above = 4)) && (decide (above = 8) || !belowB t.d)):=by
 induction t using Tr.ind with
 | _ d l ih =>
   intro above
   have hl : rightsB d.kind l = rrightsB d.kind l:=by
     induction l with
     | nil => rfl
     | cons t ts ih2 =>
       simp only [rightsB,rrightsB]
       rw [ih2 (fun t' h => ih t' (by simp [h])),ih t (by simp) d.kind]
       congr 1
       by_cases h8 : d.kind = 8
       · simp [h8]
       · simp [h8,Bool.and_comm]
   simp only [rightB,rrightB,Tr.d]
   rw [own_rown,hl]
   generalize rownB d l.length (kind0 l) = x1
   generalize rrightsB d.kind l = x2
   generalize (decide (d.kind ≠ 9) || decide (above = 4)) = x3
   generalize (decide (above = 8) || !belowB d) = x4
   cases x1 <;> cases x2 <;> cases x3 <;> cases x4 <;> rfl
def rcheckI (t : Tr) : Int:=if 256 < t.size then 5 else if 32 < t.depth then 8 else if belowB t.d = true ∨ rrightB t false = false then 6 else 0
theorem rcheck_eq (t : Tr) : rcheckI t = checkI t:=by
 unfold rcheckI checkI
 split
 · rfl
 split
 · rfl
 rw [right_rright]
 have e1 : decide ((6 : Int) = 4) = false:=by decide
 have e2 : decide ((6 : Int) = 8) = false:=by decide
 rw [e1,e2]
 cases rrightB t false <;> cases belowB t.d <;> simp
end Go.Proofs.YtbkmnboicihchaaGreat
namespace Go.Proofs.YtbkmnboicihchaaGreat
open Go.RowKit Go.Sort
theorem row_range {w : World} {g : Nat} {cs : Array Value} {t : TypeId} {fr : Nat × Nat} (h : w.heap[g]? = some (.cells cs t fr)) : w.rangeAt g 0 cs.toList:=by
 intro j v hv
 simp only [World.cell?,h]
 simpa using hv
theorem range_regrown {w : World} {b o : Nat} {cs : List Value} (h : w.rangeAt b o cs) (d : Nat) (os : Array Obj) : (grow (redrawn w d) os).rangeAt b o cs :=
 fun j v hv => cell_regrown (h j v hv) d os
theorem quiet_mid {P : Program} {a : Act} {w : World} {o : Oper} {K : Act → Prop} (ty : TypeId) (x : Operand) (ho : o.op = .load ty x)
   (b off : Nat) (hx : a.eval x = .pointer (some ⟨b,off,none⟩)) (cs : List Value) (d : TypeDesc) (hc : w.rangeAt b off cs)
   (hu : P.underlying ty = some d) (hd : d.isRow = true) (hi : (P.info? ty).map (·.size) = some cs.length)
   (hk : K (a.put o.dst (.agg cs.toArray))) : o.quiet P a (fun w' => ∃ p : Regrown,w' = grow (redrawn w p.d) p.os) K:=by
 refine ⟨.agg cs.toArray,fun w' hw' => ?_,hk⟩
 obtain ⟨p,rfl⟩:=hw'
 unfold Oper.quietAt execOp
 simp only [ho,hx,Instr.loadAt,Instr.sureAddr,Sem.run_bind,Sem.run_pure,Result.andThen_ok,run_loadVar_mid _ b off ty cs d (range_regrown hc p.d p.os) hu hd hi]
 exact ⟨rfl,rfl⟩
theorem quiet_row {P : Program} {a : Act} {w : World} {o : Oper} {K : Act → Prop} (ty : TypeId) (x : Operand) (ho : o.op = .load ty x)
   (g : Nat) (hx : a.eval x = .pointer (some ⟨g,0,none⟩)) (t : TypeId) (cs : Array Value) (fr : Nat × Nat) (d : TypeDesc) (hg : w.heap[g]? = some (.cells cs t fr))
   (hu : P.underlying ty = some d) (hd : d.isRow = true) (hi : (P.info? ty).map (·.size) = some cs.size)
   (hk : K (a.put o.dst (.agg cs))) : o.quiet P a (fun w' => ∃ p : Regrown,w' = grow (redrawn w p.d) p.os) K:=by
 have:=quiet_mid (P:=P) (w:=w) (K:=K) ty x ho g 0 hx cs.toList d (row_range hg) hu hd (by simpa using hi)
 rw [Array.toArray_toList] at this
 exact this hk
end Go.Proofs.YtbkmnboicihchaaGreat
namespace Go.Proofs.YtbkmnboicihchaaGreat
set_option maxRecDepth 100000
set_option maxHeartbeats 4000000
open Go.RowKit Go.Shelf Go.Sort Go.BigFrame
theorem rown_any (w : World) (B : Nat) (d : ND) (l : List Tr) (A : Option Addr) (c : Nat) (hd : d.ok) (hs : SlAt w B A c l) (hB : B ≤ w.heap.size) :
   Calls Tryz.prog 65 #[nodeV d A l.length c] w fun e w' => e = .returned (.bool (rownB d l.length (kind0 l))) ∧ Below w.heap.size w w':=by
 have hs':=hs.more hB
 have hk0 : l.length = 1 → ∃ kb ko,A = some ⟨kb,ko,none⟩ ∧ kb < w.heap.size ∧ w.cell? ⟨kb,ko,none⟩ = some (.int .i64 (kind0 l)):=by
   intro h1
   obtain ⟨b,o,hA,hn⟩:=hs'.at_ 0 (by omega)
   obtain ⟨hb,_,A2,c2,hc,_⟩:=hn.open_
   refine ⟨b,o,hA,hb,?_⟩
   have:=hc.all.1
   rw [Nat.zero_mul,Nat.add_zero] at this
   rw [this]
   match l,h1 with
   | [t],_ => rfl
 obtain ⟨kind,v,name,a,q,rows⟩:=d
 obtain ⟨h1,h2,h3,h4,h5,h6⟩:=id hd
 have z0 : i64 0:=by unfold i64; omega
 have zc : zeroCn.ok:=⟨z0,z0,z0,z0⟩
 have zv : zeroV.ok:=⟨z0,z0,z0,by decide,z0⟩
 have zn : noBytes.size ≤ 9223372036854775807:=by decide
 unfold rownB
 dsimp only at h1 h2 h3 h4 h5 h6 ⊢
 by_cases k0 : kind = 0
 · subst k0
   rw [if_pos rfl]
   exact rown0 w v name a q rows A l.length c _ hd (own_sameF w _ _ l A c hd ⟨h1,h2,zn,zc,zc,z0⟩ hs')
 rw [if_neg k0]
 by_cases k1 : kind = 1
 · subst k1
   rw [if_pos (.inl rfl)]
   exact rown1 w v name a q rows A l.length c _ hd (own_sameF w _ _ l A c hd ⟨h1,zv,zn,h4,zc,z0⟩ hs')
 by_cases k3 : kind = 3
 · subst k3
   rw [if_pos (.inr rfl)]
   exact rown3 w v name a q rows A l.length c _ hd (own_sameF w _ _ l A c hd ⟨h1,zv,zn,h4,zc,z0⟩ hs')
 rw [if_neg (by omega)]
 by_cases k2 : kind = 2
 · subst k2
   rw [if_pos rfl]
   exact rown2 w v name a q rows A l.length c _ hd (own_sameF w _ _ l A c hd ⟨h1,zv,zn,h4,h5,z0⟩ hs')
 rw [if_neg k2]
 by_cases k4 : kind = 4
 · subst k4
   rw [if_pos rfl]
   exact rown4 w v name a q rows A l.length c _ hd (kind0 l) hk0 (own_sameF w _ _ l A c hd ⟨h1,zv,h3,zc,zc,z0⟩ hs')
 rw [if_neg k4]
 by_cases k5 : kind = 5
 · subst k5
   rw [if_pos rfl]
   exact rown5 w v name a q rows A l.length c _ hd (own_sameF w _ _ l A c hd ⟨h1,zv,h3,zc,zc,z0⟩ hs')
 rw [if_neg k5]
 by_cases k6 : kind = 6
 · subst k6
   rw [if_pos rfl]
   exact rown6 w v name a q rows A l.length c _ hd (own_sameF w _ _ l A c hd ⟨h1,zv,h3,zc,zc,z0⟩ hs')
 rw [if_neg k6]
 by_cases k7 : kind = 7
 · subst k7
   rw [if_pos rfl]
   exact rown7 w v name a q rows A l.length c _ hd (own_sameF w _ _ l A c hd ⟨h1,zv,h3,zc,zc,z0⟩ hs')
 rw [if_neg k7]
 by_cases k8 : kind = 8
 · subst k8
   rw [if_pos rfl]
   exact rown8 w v name a q rows A l.length c _ hd (own_sameF w _ _ l A c hd ⟨h1,zv,zn,zc,zc,h6⟩ hs')
 rw [if_neg k8]
 by_cases k9 : kind = 9
 · subst k9
   rw [if_pos rfl]
   exact rown9 w v name a q rows A l.length c _ hd (own_sameF w _ _ l A c hd ⟨h1,zv,zn,zc,zc,z0⟩ hs')
 rw [if_neg k9]
 exact rown10 w kind _ rfl A l.length c rfl (by omega)
theorem rrights_step {k : Int} {l : List Tr} {i : Nat} (hi : i < l.length) (h : rrightsB k (l.take i) = true) : rrightsB k (l.take (i + 1)) = (!(decide (k = 8) && decide (l[i].d.kind ≠ 0)) && !(decide (k ≠ 8) && belowB l[i].d) && rrightB l[i] (decide (k = 4))):=by
 rw [List.take_succ_eq_append_getElem hi,rrights_append,h]; simp [rrightsB]
theorem rrights_no {k : Int} {l : List Tr} {i : Nat} (hi : i < l.length) (h : (!(decide (k = 8) && decide (l[i].d.kind ≠ 0)) && !(decide (k ≠ 8) && belowB l[i].d) && rrightB l[i] (decide (k = 4))) = false) : rrightsB k l = false:=by
 rw [← List.take_append_drop i l,rrights_append,List.drop_eq_getElem_cons hi]
 simp only [rrightsB,h,Bool.false_and,Bool.and_false]
theorem rright_c (t : Tr) : ∀ (w : World) (B : Nat) (A : Option Addr) (c : Nat) (call : Bool) (_ : t.d.ok) (_ : SlAt w B A c t.l) (_ : B ≤ w.heap.size),
   Calls Tryz.prog 55 #[nodeV t.d A t.l.length c,.bool call] w fun e w' => e = .returned (.bool (rrightB t call)) ∧ Below w.heap.size w w':=by
 induction t using Tr.ind with | _ d l ih => ?_
 intro w B A c call hd hs hB
 have IH:=Lib.hid ih
 have HS:=Lib.hid hs
 dsimp only [Tr.d,Tr.l] at HS hd hs ⊢
 have hO:=fun wx (hx : Below w.heap.size w wx) => rown_any wx B d l A c hd (hs.below (hx.mono hB)) (by have:=hx.size; omega)
 clear ih hs hd
 obtain ⟨r,hr⟩ : ∃ r,rrightB (.mk d l) call = r:=⟨_,rfl⟩
 rw [hr]
 simp only [rrightB] at hr
 obtain ⟨n,hn⟩ : ∃ n,l.length = n:=⟨_,rfl⟩
 obtain ⟨N,hN⟩ : ∃ N,N = nodeA d A n c:=⟨_,rfl⟩
 rw [hn] at hr hO
 simp only [nodeV,hn,← hN] at hO ⊢
 have hsl:=HS.out.1
 have hsc:=HS.out.2.1
 rw [hn] at hsl
 have hN21 : N[21]? = some (.slice A n c):=by rw [hN]; rfl
 obtain ⟨kd,hkd⟩ : ∃ kd,d.kind = kd:=⟨_,rfl⟩
 have hN0 : N[0]? = some (.int .i64 kd):=by rw [hN,← hkd]; rfl
 have hNs : N.size = 22:=by rw [hN]; rfl
 have hinf:=infN
 rw [← hNs] at hinf
 rw [hkd] at hr
 obtain ⟨W,hW⟩ : ∃ W,W = w.alloc (.cells N 34):=⟨_,rfl⟩
 have hbW : Below w.heap.size w W:=by rw [hW]; exact (Below.refl _ w).alloc (Nat.le_refl _) _
 have hsz : w.heap.size + 1 = W.heap.size:=by rw [hW]; simp
 have hkW : W.heap[w.heap.size]? = some (.cells N 34):=by rw [hW]; exact World.alloc_heap_new w _
 have haft : ∀ wx,Below W.heap.size W wx → Below w.heap.size w wx ∧ wx.cell? ⟨w.heap.size,0,none⟩ = some (.int .i64 kd) ∧ wx.cell? ⟨w.heap.size,21,none⟩ = some (.slice A n c):=fun wx hx => by
   have hk : wx.heap[w.heap.size]? = some (.cells N 34):=(hx.block _ (by omega)).trans hkW
   exact ⟨hbW.trans (hx.mono (by omega)),by rw [Lib.cell_of_heap hk]; exact hN0,by rw [Lib.cell_of_heap hk]; exact hN21⟩
 obtain ⟨r0,hr0⟩ : ∃ r0,rownB d n (kind0 l) = r0:=⟨_,rfl⟩
 rw [hr0] at hO hr
 have HO:=Lib.hid hO
 have HR:=Lib.hid hr
 have HN:=Lib.hid hn
 have HIN:=Lib.hid hinf
 have HW:=Lib.hid hW
 have HA:=Lib.hid haft
 have HKW:=Lib.hid hkW
 have HBW:=Lib.hid hbW
 clear hO hr hn hN hinf hW haft hkW hbW hN21 hN0 hNs hr0 hkd hsz
 cases r0
 · go_enter Tryz.func55,Tryz.ntmps55
   go_upto_region 1 with (fail)
   (try simp only [Act.put,List.setIfInBounds_toArray,List.set_cons_zero,List.set_cons_succ])
   rw [← HW.out]
   go_wp2_with (first | (refine wpList_row rfl 34 _ rfl w.heap.size rfl 34 N (0,0) _ HKW.out undN rfl HIN.out ?_) | (go_at_call 65; refine (HO.out _ HBW.out).mono ?_; rintro e w2 ⟨rfl,hbe⟩))
   go_ret
   exact ⟨ret_bool (by rw [← HR.out]; rfl),HBW.out.trans (hbe.mono HBW.out.size)⟩
 by_cases h9 : kd = 9 ∧ call = false
 · obtain ⟨rfl,rfl⟩:=h9
   go_enter Tryz.func55,Tryz.ntmps55
   go_upto_region 1 with (fail)
   (try simp only [Act.put,List.setIfInBounds_toArray,List.set_cons_zero,List.set_cons_succ])
   rw [← HW.out]
   go_wp2_with (first | (refine wpList_row rfl 34 _ rfl w.heap.size rfl 34 N (0,0) _ HKW.out undN rfl HIN.out ?_) | (go_at_call 65; refine (HO.out _ HBW.out).mono ?_; rintro e w2 ⟨rfl,hbe⟩; obtain ⟨hb2,hc0,hc21⟩:=HA.out w2 hbe))
   go_ret
   exact ⟨ret_bool (by rw [← HR.out]; rfl),hb2⟩
 have hr2 : r = rrightsB kd l:=by
   rw [← HR.out]
   by_cases h : kd = 9
   · have hc : call = true:=by cases call with | true => rfl | false => exact absurd ⟨h,rfl⟩ h9
     rw [hc]; simp
   · simp [h]
 have HR2:=Lib.hid hr2
 clear HR hr2
 obtain ⟨b9,hb9⟩ : ∃ b,(kd == 9) = b:=⟨_,rfl⟩
 have hb9' : decide (kd = 9) = b9:=by rw [← hb9]; rfl
 have hcall : b9 = true → call = true:=by
   intro h
   rw [h] at hb9
   have h9' : kd = 9:=by simpa using hb9
   cases call with | true => rfl | false => exact absurd ⟨h9',rfl⟩ h9
 clear h9
 have HX:=Lib.hid hcall
 clear hcall
 cases b9
 case' true =>
   obtain rfl:=HX.out rfl
 all_goals clear HX
 all_goals
   go_enter Tryz.func55,Tryz.ntmps55
   go_upto_region 1 with (fail)
   (try simp only [Act.put,List.setIfInBounds_toArray,List.set_cons_zero,List.set_cons_succ])
   rw [← HW.out]
   go_wp2_with (first | (refine wpList_row rfl 34 _ rfl w.heap.size rfl 34 N (0,0) _ HKW.out undN rfl HIN.out ?_) | (go_at_call 65; refine (HO.out _ HBW.out).mono ?_; rintro e w2 ⟨rfl,hbe⟩; obtain ⟨hb2,hc0,hc21⟩:=HA.out w2 hbe))
   clear hb9 hb9' hc0 hc21 hb2
   have HBE:=Lib.hid hbe
   clear hbe
   go_loopw [5] (fun i wr => ∃ j : Nat,j ≤ n ∧ i = .int .i64 j ∧ Hid (rrightsB kd (l.take j) = true) ∧ Hid (Below W.heap.size W wr)) (fun i _ => n - (intOf i).toNat)
   case atStart => exact ⟨0,Nat.zero_le _,rfl,Lib.hid (by simp [rrightsB]),HBE⟩
   case round =>
     obtain ⟨j,hj,rfl,hacc,hbr⟩:=hrel
     obtain ⟨hfin,hc0,hc21⟩:=HA.out wr hbr.out
     have HFI:=Lib.hid hfin
     by_cases hlt : j < n
     · have hjl : j < l.length:=by rw [HN.out]; exact hlt
       obtain ⟨b2,o2,hA,hkn⟩:=HS.out.at_ j hjl
       subst hA
       obtain ⟨hkb,hkdok,A2,c2,hkc,hks⟩:=hkn.open_
       have hkid:=fun wx (hx : Below w.heap.size w wx) => IH.out l[j] (List.getElem_mem hjl) wx B A2 c2 (decide (kd = 4)) hkdok (hks.below (hx.mono hB)) (by have:=hx.size; omega)
       have hbel:=fun wx => rbelow_any wx l[j].d A2 l[j].l.length c2
       obtain ⟨cs,hcs,hcl,hrg⟩:=hkc.range (w':=wr) (fun p hp => hfin.cell (by omega))
       have hkk : wr.cell? ⟨b2,o2 + j * 22,none⟩ = some (.int .i64 l[j].d.kind):=(hfin.cell (p:=⟨b2,o2 + j * 22,none⟩) (by show b2 < _; omega)).trans hkc.all.1
       simp only [nodeV,← hcs] at hkid hbel
       obtain ⟨kk,hkke⟩ : ∃ kk,l[j].d.kind = kk:=⟨_,rfl⟩
       have hstep:=fun h => rrights_step (k:=kd) hjl h
       have hno:=fun h => rrights_no (k:=kd) hjl h
       rw [hkke] at hkk hstep hno
       obtain ⟨bl,hbl⟩ : ∃ b,belowB l[j].d = b:=⟨_,rfl⟩
       obtain ⟨rk,hrk⟩ : ∃ b,rrightB l[j] (decide (kd = 4)) = b:=⟨_,rfl⟩
       rw [hbl] at hbel hstep hno
       rw [hrk] at hkid hstep hno
       obtain ⟨b4,hb4⟩ : ∃ b,decide (kd = 4) = b:=⟨_,rfl⟩
       rw [hb4] at hkid
       have hb4' : (kd == 4) = b4:=by rw [← hb4]; rfl
       have hq0 : ∀ d os,(grow (redrawn wr d) os).cell? ⟨w.heap.size,0,none⟩ = some (.int .i64 kd):=fun d os => cell_regrown hc0 d os
       have hq21 : ∀ d os,(grow (redrawn wr d) os).cell? ⟨w.heap.size,21,none⟩ = some (.slice (some ⟨b2,o2,none⟩) n c):=fun d os => cell_regrown hc21 d os
       have hqk : ∀ d os,(grow (redrawn wr d) os).cell? ⟨b2,o2 + j * 22,none⟩ = some (.int .i64 kk):=fun d os => cell_regrown hkk d os
       have hkid' : ∀ d os,Calls Tryz.prog 55 #[.agg cs.toArray,.bool b4] (grow (redrawn wr d) os) fun e w'' => e = .returned (.bool rk) ∧ ∃ p : Regrown,w'' = grow (redrawn wr p.d) p.os:=fun d os =>
         Calls.regrown_of (hkid _ (hfin.trans ((below_regrown wr d os).mono hfin.size)))
       have hbel' : ∀ d os,Calls Tryz.prog 54 #[.agg cs.toArray] (grow (redrawn wr d) os) fun e w'' => e = .returned (.bool bl) ∧ ∃ p : Regrown,w'' = grow (redrawn wr p.d) p.os:=fun d os =>
         Calls.regrown_of (hbel _)
       have HKI:=Lib.hid hkid'
       have HBL:=Lib.hid hbel'
       have HRG:=Lib.hid hrg
       have HST:=Lib.hid hstep
       have HNO:=Lib.hid hno
       have hcl' : Hid ((Tryz.prog.info? 34).map (·.size) = some cs.length):=Lib.hid (by rw [hcl]; exact infN)
       have hj1 : (j : Int) < (n : Int):=by omega
       have hj0 : (0 : Int) ≤ (j : Int):=by omega
       clear hkn hkb hkdok hkc hks hkid hkid' hbel hbel' hrg hcs hcl hkke hstep hno hbl hrk hfin hkk
       by_cases h8 : kd = 8
       · subst h8
         by_cases hk0 : kk = 0
         · subst hk0
           cases rk
           all_goals
             go_wp2
             refine wp_region_quiet_below (by kernel_rfl) (by kernel_rfl) ?_
             repeat (first
               | (go_big_quiet_want; refine quiet_mid 34 _ rfl b2 (o2 + j * 22) rfl cs _ HRG.out undN rfl hcl'.out ?_; simp only [Act.put,List.setIfInBounds_toArray,List.set_cons_zero,List.set_cons_succ]; go_big_quiet_on)
               | go_big_quiet_step (first | with_reducible exact HBL.out _ _ | with_reducible exact HKI.out _ _))
             refine wpQuiet_nil ?_
             rintro w4 ⟨⟨dq,osq⟩,hq4⟩
             have hb5 : Below wr.heap.size wr w4:=by rw [hq4]; exact below_regrown wr dq osq
             clear hq4
             go_wp2
           · go_ret
             exact ⟨ret_bool (by rw [HR2.out]; exact (HNO.out (by simp)).symm),HFI.out.trans (hb5.mono HFI.out.size)⟩
           · go_roundw
             case rel => exact ⟨j + 1,by omega,by go_num,Lib.hid ((HST.out hacc.out).trans (by simp)),Lib.hid (hbr.out.trans (hb5.mono hbr.out.size))⟩
             case measure => simp [intOf]; omega
         · have q1 : (kk != 0) = true:=by simpa using hk0
           have q2 : decide (kk = 0) = false:=by simpa using hk0
           have hno':=HNO.out (by simp [hk0])
           have HNN:=Lib.hid hno'
           clear hk0 hno'
           go_wp2
           refine wp_region_quiet_below (by kernel_rfl) (by kernel_rfl) ?_
           repeat (first
             | (go_big_quiet_want; refine quiet_mid 34 _ rfl b2 (o2 + j * 22) rfl cs _ HRG.out undN rfl hcl'.out ?_; simp only [Act.put,List.setIfInBounds_toArray,List.set_cons_zero,List.set_cons_succ]; go_big_quiet_on)
             | go_big_quiet_step (first | with_reducible exact HBL.out _ _ | with_reducible exact HKI.out _ _))
           refine wpQuiet_nil ?_
           rintro w4 ⟨⟨dq,osq⟩,hq4⟩
           have hb5 : Below wr.heap.size wr w4:=by rw [hq4]; exact below_regrown wr dq osq
           clear hq4
           go_wp2
           go_ret
           exact ⟨ret_bool (by rw [HR2.out]; exact HNN.out.symm),HFI.out.trans (hb5.mono HFI.out.size)⟩
       · have q1 : (kd == 8) = false:=by simpa using h8
         have q2 : (kd != 8) = true:=by simpa using h8
         have q3 : decide (kd = 8) = false:=by simpa using h8
         have hst' : rrightsB kd (List.take j l) = true → rrightsB kd (List.take (j + 1) l) = (!bl && rk):=fun h => (HST.out h).trans (by simp [h8])
         have hno' : (!bl && rk) = false → rrightsB kd l = false:=fun h => HNO.out (by rw [q3,decide_eq_true h8]; simpa using h)
         have HST2:=Lib.hid hst'
         have HNO2:=Lib.hid hno'
         clear h8 hst' hno'
         cases bl <;> cases rk
         all_goals
           go_wp2
           refine wp_region_quiet_below (by kernel_rfl) (by kernel_rfl) ?_
           repeat (first
             | (go_big_quiet_want; refine quiet_mid 34 _ rfl b2 (o2 + j * 22) rfl cs _ HRG.out undN rfl hcl'.out ?_; simp only [Act.put,List.setIfInBounds_toArray,List.set_cons_zero,List.set_cons_succ]; go_big_quiet_on)
             | go_big_quiet_step (first | with_reducible exact HBL.out _ _ | with_reducible exact HKI.out _ _))
           refine wpQuiet_nil ?_
           rintro w4 ⟨⟨dq,osq⟩,hq4⟩
           have hb5 : Below wr.heap.size wr w4:=by rw [hq4]; exact below_regrown wr dq osq
           clear hq4
           go_wp2
         · go_ret
           exact ⟨ret_bool (by rw [HR2.out]; exact (HNO2.out rfl).symm),HFI.out.trans (hb5.mono HFI.out.size)⟩
         · go_roundw
           case rel => exact ⟨j + 1,by omega,by go_num,Lib.hid (HST2.out hacc.out),Lib.hid (hbr.out.trans (hb5.mono hbr.out.size))⟩
           case measure => simp [intOf]; omega
         · go_ret
           exact ⟨ret_bool (by rw [HR2.out]; exact (HNO2.out rfl).symm),HFI.out.trans (hb5.mono HFI.out.size)⟩
         · go_ret
           exact ⟨ret_bool (by rw [HR2.out]; exact (HNO2.out rfl).symm),HFI.out.trans (hb5.mono HFI.out.size)⟩
     · obtain rfl : j = n:=by omega
       clear hc0
       go_wp2
       go_ret
       exact ⟨ret_bool (by rw [HR2.out,← hacc.out,← HN.out,List.take_length]),HFI.out⟩
end Go.Proofs.YtbkmnboicihchaaGreat
namespace Go.Proofs.YtbkmnboicihchaaGreat
set_option maxRecDepth 100000
set_option maxHeartbeats 2000000
open Go.RowKit Go.Shelf
def greatB (t : Tr) : Bool:=overB t 40 || decide (400 < t.size)
theorem great_c (t : Tr) (w : World) (B : Nat) (A : Option Addr) (c : Nat) (hd : t.d.ok) (hs : SlAt w B A c t.l) (hB : B ≤ w.heap.size) (hsz : t.size ≤ 1048576) :
   Calls Tryz.prog 6 #[nodeV t.d A t.l.length c] w fun e w' => e = .returned (.bool (greatB t)) ∧ Below w.heap.size w w':=by
 have hO:=fun wx (hx : Below w.heap.size w wx) => over_c t wx B A c 40 hd (hs.below (hx.mono hB)) (by have:=hx.size; omega) (by omega)
 have hN:=fun wx (hx : Below w.heap.size w wx) => nodes_c t wx B A c hd (hs.below (hx.mono hB)) (by have:=hx.size; omega) hsz
 unfold greatB
 rw [← nodes_len t]
 have hnl : t.nodes.length ≤ 1048576:=by rw [nodes_len]; exact hsz
 obtain ⟨N,hN0⟩ : ∃ N,N = nodeA t.d A t.l.length c:=⟨_,rfl⟩
 have hNs : N.size = 22:=by rw [hN0]; rfl
 simp only [nodeV,← hN0] at hO hN ⊢
 obtain ⟨r,hr⟩ : ∃ r,overB t 40 = r:=⟨_,rfl⟩
 rw [hr] at hO ⊢
 have hinf:=infN
 rw [← hNs] at hinf
 have HIN:=Lib.hid hinf
 have HO:=Lib.hid hO
 have HN:=Lib.hid hN
 have hb0 : Below w.heap.size w (w.alloc (.cells N 34)):=(Below.refl _ w).alloc (Nat.le_refl _) _
 have HB:=Lib.hid hb0
 clear hO hN hr hinf hb0 hNs hN0 hd hs hsz
 generalize t.nodes = ts at *
 cases r
 · go_enter Tryz.func6,Tryz.ntmps6
   go_wp2_with (first | (refine wpList_row rfl 34 _ rfl w.heap.size rfl 34 N (0,0) _ (World.alloc_heap_new w _) undN rfl HIN.out ?_) | (go_at_call 20; refine (HO.out _ HB.out).mono ?_; rintro e w2 ⟨rfl,hbe⟩; have hb2 : Below w.heap.size w w2:=HB.out.trans (hbe.mono (by simp)); have hg2 : w2.heap[w.heap.size]? = some (.cells N 34):=(hbe.block _ (by simp)).trans (World.alloc_heap_new w _); have HG2:=Lib.hid hg2; clear hg2) | (refine wpList_row rfl 34 _ rfl w.heap.size rfl 34 N (0,0) _ HG2.out undN rfl HIN.out ?_) | (go_at_call 21; refine (HN.out _ hb2).mono ?_; rintro e w3 ⟨g,cap,xs,rfl,-,-,hbe3⟩))
   go_ret
   exact ⟨ret_bool (by rw [Bool.eq_iff_iff]; simp; omega),hb2.trans (hbe3.mono hb2.size)⟩
 · go_enter Tryz.func6,Tryz.ntmps6
   go_wp2_with (first | (refine wpList_row rfl 34 _ rfl w.heap.size rfl 34 N (0,0) _ (World.alloc_heap_new w _) undN rfl HIN.out ?_) | (go_at_call 20; refine (HO.out _ HB.out).mono ?_; rintro e w2 ⟨rfl,hbe⟩))
   go_ret
   exact ⟨rfl,HB.out.trans (hbe.mono (by simp))⟩
end Go.Proofs.YtbkmnboicihchaaGreat
namespace Go.Proofs.YtbkmnboicihchaaGreat
set_option maxRecDepth 100000
set_option maxHeartbeats 2000000
open Go.RowKit Go.Shelf
theorem ret_int {k : IntKind} {a b : Int} (h : a = b) : Ending.returned (.int k a) = .returned (.int k b):=by rw [h]
theorem depths_append : ∀ (l m : List Tr),Tr.depths (l ++ m) = max (Tr.depths l) (Tr.depths m)
 | [],m => by simp [Tr.depths]
 | t :: l,m => by simp only [List.cons_append,Tr.depths,depths_append l m]; omega
theorem depths_step {l : List Tr} {i : Nat} (hi : i < l.length) : Tr.depths (l.take (i + 1)) = max (Tr.depths (l.take i)) l[i].depth:=by
 rw [List.take_succ_eq_append_getElem hi,depths_append]; simp [Tr.depths]
theorem depth_le_size (t : Tr) : t.depth ≤ t.size:=by
 induction t using Tr.ind with
 | _ d l ih =>
   simp only [Tr.depth,Tr.size]
   have : Tr.depths l ≤ Tr.sizes l:=by
     induction l with
     | nil => simp [Tr.depths,Tr.sizes]
     | cons a l ih2 =>
       have h1:=ih a (by simp)
       have h2:=ih2 (fun t ht => ih t (by simp [ht]))
       simp only [Tr.depths,Tr.sizes]; omega
   omega
theorem depths_le_sizes (l : List Tr) : Tr.depths l ≤ Tr.sizes l:=by
 induction l with
 | nil => simp [Tr.depths,Tr.sizes]
 | cons a l ih2 =>
   have h1:=depth_le_size a
   simp only [Tr.depths,Tr.sizes]; omega
theorem rdepth_c (t : Tr) : ∀ (w : World) (B : Nat) (A : Option Addr) (c : Nat) (_ : t.d.ok) (_ : SlAt w B A c t.l) (_ : B ≤ w.heap.size) (_ : t.size ≤ 1048576),
   Calls Tryz.prog 53 #[nodeV t.d A t.l.length c] w fun e w' => e = .returned (.int .i64 t.depth) ∧ Below w.heap.size w w':=by
 induction t using Tr.ind with | _ d l ih => ?_
 intro w B A c hd hs hB hsz
 have IH:=Lib.hid ih
 have HD:=Lib.hid hd
 have HS:=Lib.hid hs
 clear ih hd hs
 dsimp only [Tr.d,Tr.l] at HD HS ⊢
 obtain ⟨r,hr⟩ : ∃ r,Tr.depth (.mk d l) = r:=⟨_,rfl⟩
 rw [hr]
 simp only [Tr.depth] at hr
 obtain ⟨N,hN⟩ : ∃ N,N = nodeA d A l.length c:=⟨_,rfl⟩
 rw [nodeV,← hN]
 have hN21 : N[21]? = some (.slice A l.length c):=by rw [hN]; rfl
 have HR:=Lib.hid hr
 have hsl:=HS.out.1
 have hsc:=HS.out.2.1
 obtain ⟨n,hn⟩ : ∃ n,l.length = n:=⟨_,rfl⟩
 rw [hn] at hN21 hsl
 have HN:=Lib.hid hn
 have hszl : Tr.sizes l + 1 ≤ 1048576:=by simpa [Tr.size] using hsz
 clear hr hN hn hsz
 have HN21:=Lib.hid hN21
 clear hN21
 go_enter Tryz.func53,Tryz.ntmps53
 go_wp2
 obtain ⟨W,hW⟩ : ∃ W,w.alloc (.cells N 34) = W:=⟨_,rfl⟩
 have hc21 : W.cell? ⟨w.heap.size,21,none⟩ = some (.slice A n c):=by rw [← hW]; exact (cell_of_row _ _ 21 _ _ _ (World.alloc_heap_new w _)).trans HN21.out
 have hbW : Below w.heap.size w W:=by rw [← hW]; exact (Below.refl _ w).alloc (Nat.le_refl _) _
 have hzW : W.heap.size = w.heap.size + 1:=by rw [← hW]; simp
 rw [hW]
 have HZ:=Lib.hid hzW
 have HBW:=Lib.hid hbW
 have HC:=Lib.hid hc21
 clear hW hc21 hbW hzW
 go_loopw [3,4] (fun v i wr => ∃ j : Nat,j ≤ n ∧ i = .int .i64 j ∧ v = .int .i64 (Tr.depths (l.take j) : Nat) ∧ Below W.heap.size W wr) (fun _ i _ => n - (intOf i).toNat)
 case atStart => exact ⟨0,Nat.zero_le _,rfl,by simp [Tr.depths],Below.refl _ _⟩
 case round =>
   obtain ⟨j,hj,rfl,rfl,hbr⟩:=hrel
   have hc : wr.cell? ⟨w.heap.size,21,none⟩ = some (.slice A n c):=(hbr.cell (p:=⟨w.heap.size,21,none⟩) (by have:=HZ.out; simp; omega)).trans HC.out
   have hfin : Below w.heap.size w wr:=HBW.out.trans (hbr.mono (by have:=HZ.out; omega))
   have hdl : Tr.depths (l.take j) ≤ 1048576:=by
     have h1:=depths_le_sizes (l.take j)
     have h2 : Tr.sizes l = Tr.sizes (l.take j) + Tr.sizes (l.drop j):=by rw [← sizes_append,List.take_append_drop]
     omega
   by_cases hlt : j < n
   · have hjl : j < l.length:=by rw [HN.out]; exact hlt
     have hst:=sizes_take hjl
     obtain ⟨b2,o2,hA,hkn⟩:=HS.out.at_ j hjl
     subst hA
     obtain ⟨hkb,hkd,A2,c2,hkc,hks⟩:=hkn.open_
     have hkid:=IH.out l[j] (List.getElem_mem hjl) wr B A2 c2 hkd (hks.below (hfin.mono hB)) (by have:=hfin.size; omega) (by omega)
     obtain ⟨cs,hcs,hcl,hrg⟩:=hkc.range (w':=wr) (fun p hp => hfin.cell (by omega))
     rw [nodeV,← hcs] at hkid
     have hinf:=infN
     rw [← hcl] at hinf
     have hds:=depths_step hjl
     obtain ⟨dk,hdk⟩ : ∃ dk,l[j].depth = dk:=⟨_,rfl⟩
     obtain ⟨dd,hdd⟩ : ∃ dd,Tr.depths (l.take j) = dd:=⟨_,rfl⟩
     rw [hdk] at hkid hds
     rw [hdd] at hds hdl ⊢
     have hdk2 : dk ≤ 1048576:=by rw [← hdk]; have:=depth_le_size l[j]; omega
     have HRG:=Lib.hid hrg
     have HIN:=Lib.hid hinf
     have HK:=Lib.hid hkid
     have HDS:=Lib.hid hds
     have HWR:=Lib.hid hbr
     have hj1 : (j : Int) < (n : Int):=by omega
     have hj0 : (0 : Int) ≤ (j : Int):=by omega
     clear hinf hrg hcl hcs hkid hkn hkb hkd hkc hks hbr hfin hds hdk hdd hst
     go_wp2_with (first | (refine wpList_load_mid rfl 34 _ rfl b2 (o2 + j * 22) rfl cs _ HRG.out undN rfl HIN.out ?_) | go_at_call 53; refine HK.out.mono ?_; rintro e w2 ⟨rfl,hbe⟩)
     all_goals
       go_roundw
       case rel => exact ⟨j + 1,by omega,by go_num,by rw [HDS.out]; go_num,HWR.out.trans (hbe.mono HWR.out.size)⟩
       case measure => simp [intOf]; omega
   · obtain rfl : j = n:=by omega
     obtain ⟨dd,hdd⟩ : ∃ dd,Tr.depths (l.take j) = dd:=⟨_,rfl⟩
     rw [hdd] at hdl ⊢
     have HDD:=Lib.hid hdd
     clear hdd
     go_wp2
     go_ret
     exact ⟨ret_int (by rw [← HR.out,← HDD.out,← HN.out,List.take_length]; omega),hfin⟩
end Go.Proofs.YtbkmnboicihchaaGreat
namespace Go.Proofs.YtbkmnboicihchaaGreat
set_option maxRecDepth 100000
set_option maxHeartbeats 2000000
open Go.RowKit Go.Shelf
theorem rcheck_c (t : Tr) (w : World) (B : Nat) (A : Option Addr) (c : Nat) (hd : t.d.ok) (hs : SlAt w B A c t.l) (hB : B ≤ w.heap.size) (hsz : t.size ≤ 1048576) :
   Calls Tryz.prog 41 #[nodeV t.d A t.l.length c] w fun e w' => e = .returned (.int .i64 (checkI t)) ∧ Below w.heap.size w w':=by
 rw [← rcheck_eq]
 have hN:=fun wx (hx : Below w.heap.size w wx) => nodes_c t wx B A c hd (hs.below (hx.mono hB)) (by have:=hx.size; omega) hsz
 have hD:=fun wx (hx : Below w.heap.size w wx) => rdepth_c t wx B A c hd (hs.below (hx.mono hB)) (by have:=hx.size; omega) hsz
 have hL:=fun wx => rbelow_any wx t.d A t.l.length c
 have hR:=fun wx (hx : Below w.heap.size w wx) => rright_c t wx B A c false hd (hs.below (hx.mono hB)) (by have:=hx.size; omega)
 have hnl : t.nodes.length = t.size:=nodes_len t
 obtain ⟨ts,hts⟩ : ∃ ts,t.nodes = ts:=⟨_,rfl⟩
 rw [hts] at hN hnl
 obtain ⟨N,hN0⟩ : ∃ N,N = nodeA t.d A t.l.length c:=⟨_,rfl⟩
 have hNs : N.size = 22:=by rw [hN0]; rfl
 simp only [nodeV,← hN0] at hN hD hL hR ⊢
 have hdl : t.depth ≤ t.size:=depth_le_size t
 obtain ⟨r,hr⟩ : ∃ r,r = rcheckI t:=⟨_,rfl⟩
 rw [← hr]
 unfold rcheckI at hr
 obtain ⟨sz,hsze⟩ : ∃ s,t.size = s:=⟨_,rfl⟩
 obtain ⟨dp,hdpe⟩ : ∃ s,t.depth = s:=⟨_,rfl⟩
 obtain ⟨bl,hble⟩ : ∃ s,belowB t.d = s:=⟨_,rfl⟩
 obtain ⟨rk,hrke⟩ : ∃ s,rrightB t false = s:=⟨_,rfl⟩
 rw [hsze] at hr hsz hdl
 rw [hsze] at hnl
 rw [hdpe] at hr hdl hD
 rw [hble] at hr hL
 rw [hrke] at hr hR
 have hinf:=infN
 rw [← hNs] at hinf
 obtain ⟨W,hW⟩ : ∃ W,W = w.alloc (.cells N 34):=⟨_,rfl⟩
 have hbW : Below w.heap.size w W:=by rw [hW]; exact (Below.refl _ w).alloc (Nat.le_refl _) _
 have hkW : W.heap[w.heap.size]? = some (.cells N 34):=by rw [hW]; exact World.alloc_heap_new w _
 have hsW : w.heap.size + 1 = W.heap.size:=by rw [hW]; simp
 have haft : ∀ wx,Below W.heap.size W wx → Below w.heap.size w wx ∧ wx.heap[w.heap.size]? = some (.cells N 34):=fun wx hx => ⟨hbW.trans (hx.mono (by omega)),(hx.block _ (by omega)).trans hkW⟩
 have HN:=Lib.hid hN
 have HNL:=Lib.hid hnl
 have HD:=Lib.hid hD
 have HL:=Lib.hid hL
 have HR:=Lib.hid hR
 have HRR:=Lib.hid hr
 have HIN:=Lib.hid hinf
 have HW:=Lib.hid hW
 have HA:=Lib.hid haft
 have HKW:=Lib.hid hkW
 have HBW:=Lib.hid hbW
 clear hts hN hD hL hR hr hinf hW haft hkW hbW hsW hNs hN0 hsze hdpe hble hrke hnl hs hd
 go_enter Tryz.func41,Tryz.ntmps41
 go_upto_region 1 with (fail)
 (try simp only [Act.put,List.setIfInBounds_toArray,List.set_cons_zero,List.set_cons_succ])
 rw [← HW.out]
 go_wp2_with (first | (refine wpList_row rfl 34 _ rfl w.heap.size rfl 34 N (0,0) _ HKW.out undN rfl HIN.out ?_) | fail)
 refine (HN.out _ HBW.out).mono ?_
 rintro e w2 ⟨g,cap,xs,rfl,-,-,hbe2⟩
 rw [HNL.out]
 have hw2 : Below W.heap.size W w2:=hbe2
 obtain ⟨hb2,hk2⟩:=HA.out w2 hw2
 have HK2:=Lib.hid hk2
 have HB2:=Lib.hid hb2
 have HW2:=Lib.hid hw2
 clear hbe2 hw2 hb2 hk2
 by_cases c1 : 256 < sz
 · go_wp2
   go_ret
   exact ⟨by rw [HRR.out,if_pos c1]; rfl,HB2.out⟩
 have h1 : r = if 32 < dp then 8 else if bl = true ∨ rk = false then 6 else 0:=by rw [HRR.out,if_neg c1]
 have H1:=Lib.hid h1
 clear h1
 go_wp2_with (first | (refine wpList_row rfl 34 _ rfl w.heap.size rfl 34 N (0,0) _ HK2.out undN rfl HIN.out ?_) | fail)
 refine (HD.out _ HB2.out).mono ?_
 rintro e w3 ⟨rfl,hbe3⟩
 have hw3 : Below W.heap.size W w3:=HW2.out.trans (hbe3.mono HW2.out.size)
 obtain ⟨hb3,hk3⟩:=HA.out w3 hw3
 have HK3:=Lib.hid hk3
 have HB3:=Lib.hid hb3
 have HW3:=Lib.hid hw3
 clear hbe3 hw3 hb3 hk3
 by_cases c2 : 32 < dp
 · go_wp2
   go_ret
   exact ⟨by rw [H1.out,if_pos c2]; rfl,HB3.out⟩
 have h2 : r = if bl = true ∨ rk = false then 6 else 0:=by rw [H1.out,if_neg c2]
 have H2:=Lib.hid h2
 clear h2
 go_wp2_with (first | (refine wpList_row rfl 34 _ rfl w.heap.size rfl 34 N (0,0) _ HK3.out undN rfl HIN.out ?_) | fail)
 refine (HL.out _).mono ?_
 rintro e w4 ⟨rfl,hbe4⟩
 have hw4 : Below W.heap.size W w4:=HW3.out.trans (hbe4.mono HW3.out.size)
 obtain ⟨hb4,hk4⟩:=HA.out w4 hw4
 have HK4:=Lib.hid hk4
 have HB4:=Lib.hid hb4
 clear hbe4 hw4 hb4 hk4
 cases bl
 · go_wp2_with (first | (refine wpList_row rfl 34 _ rfl w.heap.size rfl 34 N (0,0) _ HK4.out undN rfl HIN.out ?_) | fail)
   refine (HR.out _ HB4.out).mono ?_
   rintro e w5 ⟨rfl,hbe5⟩
   have hb5:=HB4.out.trans (hbe5.mono HB4.out.size)
   cases rk
   · go_wp2
     go_ret
     exact ⟨by rw [H2.out]; rfl,hb5⟩
   · go_wp2
     go_ret
     exact ⟨by rw [H2.out]; rfl,hb5⟩
 · go_wp2
   go_ret
   exact ⟨by rw [H2.out]; rfl,HB4.out⟩
end Go.Proofs.YtbkmnboicihchaaGreat
