/- Trees in memory whose nodes lie in blocks of a zone (a predicate on blocks' numbers). No program in sight. (*reader).node,in plain words. The plain reader: what it keeps in bounds. -/
import Derived.Test.YtelombedjkbckaaGreatDoorNd
import Derived.Test.YtelombedjkbckaaGreatDoorDaDbDcDdDe
import Derived.Test.YtelombedjkbckaaGreatDoorRrRz
import Derived.Test.YtelombedjkbckaaGreatDoorOvNoGtCu
namespace Go.Proofs.YtelombedjkbckaaGreatDoor
open Go.RowKit
mutual
def NodeZ (w : World) (Z : Nat → Prop) (b o : Nat) : Tr → Prop
 | .mk d l => Z b ∧ d.ok ∧ ∃ A c,NodeCells w b o d A l.length c ∧ l.length ≤ c ∧ c ≤ 9223372036854775807 ∧ (l = [] ∨ ∃ b' o',A = some ⟨b',o',none⟩ ∧ KidsZ w Z b' o' l)
def KidsZ (w : World) (Z : Nat → Prop) (b o : Nat) : List Tr → Prop
 | [] => True
 | t :: ts => NodeZ w Z b o t ∧ KidsZ w Z b (o + 22) ts
end
def SlZ (w : World) (Z : Nat → Prop) (A : Option Addr) (c : Nat) (l : List Tr) : Prop:=l.length ≤ c ∧ c ≤ 9223372036854775807 ∧ (l = [] ∨ ∃ b' o',A = some ⟨b',o',none⟩ ∧ KidsZ w Z b' o' l)
theorem KidsZ.get {w : World} {Z : Nat → Prop} {b : Nat} : ∀ {l : List Tr} {o : Nat},KidsZ w Z b o l → ∀ i (h : i < l.length),NodeZ w Z b (o + i * 22) l[i]
 | [],_,_,i,h => by simp at h
 | t :: ts,o,hk,0,_ => by simp only [KidsZ] at hk; simpa using hk.1
 | t :: ts,o,hk,i + 1,h => by
  simp only [KidsZ] at hk
  have:=KidsZ.get hk.2 i (by simpa using h)
  simp only [List.getElem_cons_succ]
  rw [show o + (i + 1) * 22 = o + 22 + i * 22 by omega]
  exact this
theorem KidsZ.of {w : World} {Z : Nat → Prop} {b : Nat} : ∀ {l : List Tr} {o : Nat},(∀ i (h : i < l.length),NodeZ w Z b (o + i * 22) l[i]) → KidsZ w Z b o l
 | [],_,_ => by simp [KidsZ]
 | t :: ts,o,h => by
  simp only [KidsZ]
  refine ⟨by have h0:=h 0 (by simp); rw [Nat.zero_mul,Nat.add_zero] at h0; exact h0,KidsZ.of (fun i hi => ?_)⟩
  have:=h (i + 1) (by simpa using hi)
  simp only [List.getElem_cons_succ] at this
  rw [show o + 22 + i * 22 = o + (i + 1) * 22 by omega]
  exact this
theorem NodeZ.move {w w' : World} {Z Z' : Nat → Prop} (hz : ∀ k,Z k → Z' k) (hk : ∀ p : Addr,Z p.block → w'.cell? p = w.cell? p) (t : Tr) : ∀ b o,NodeZ w Z b o t → NodeZ w' Z' b o t:=by
 induction t using Tr.ind with
 | _ d l ih =>
  intro b o h
  simp only [NodeZ] at h ⊢
  obtain ⟨hb,hd,A,c,hc,h1,h2,h3⟩:=h
  refine ⟨hz _ hb,hd,A,c,hc.keep (fun p hp => hk p (by rw [hp]; exact hb)),h1,h2,?_⟩
  rcases h3 with rfl | ⟨b',o',hA,hkids⟩
  · exact .inl rfl
  · exact .inr ⟨b',o',hA,KidsZ.of (fun i hi => ih _ (List.getElem_mem hi) _ _ (hkids.get i hi))⟩
theorem SlZ.move {w w' : World} {Z Z' : Nat → Prop} {A : Option Addr} {c : Nat} {l : List Tr} (h : SlZ w Z A c l) (hz : ∀ k,Z k → Z' k) (hk : ∀ p : Addr,Z p.block → w'.cell? p = w.cell? p) : SlZ w' Z' A c l:=by
 obtain ⟨h1,h2,h3⟩:=h
 refine ⟨h1,h2,?_⟩
 rcases h3 with rfl | ⟨b',o',hA,hkids⟩
 · exact .inl rfl
 · exact .inr ⟨b',o',hA,KidsZ.of (fun i hi => NodeZ.move hz hk _ _ _ (hkids.get i hi))⟩
theorem SlZ.nil (w : World) (Z : Nat → Prop) (A : Option Addr) (c : Nat) (hc : c ≤ 9223372036854775807) : SlZ w Z A c []:=⟨Nat.zero_le _,hc,.inl rfl⟩
theorem NodeZ.at_ {w : World} {Z : Nat → Prop} {B : Nat} (hz : ∀ k,Z k → k < B) (t : Tr) : ∀ b o,NodeZ w Z b o t → NodeAt w B b o t:=by
 induction t using Tr.ind with
 | _ d l ih =>
  intro b o h
  simp only [NodeZ] at h
  simp only [NodeAt]
  obtain ⟨hb,hd,A,c,hc,h1,h2,h3⟩:=h
  refine ⟨hz _ hb,hd,A,c,hc,h1,h2,?_⟩
  rcases h3 with rfl | ⟨b',o',hA,hkids⟩
  · exact .inl rfl
  · exact .inr ⟨b',o',hA,KidsAt.of (fun i hi => ih _ (List.getElem_mem hi) _ _ (hkids.get i hi))⟩
theorem SlZ.at_ {w : World} {Z : Nat → Prop} {B : Nat} {A : Option Addr} {c : Nat} {l : List Tr} (h : SlZ w Z A c l) (hz : ∀ k,Z k → k < B) : SlAt w B A c l:=by
 obtain ⟨h1,h2,h3⟩:=h
 refine ⟨h1,h2,?_⟩
 rcases h3 with rfl | ⟨b',o',hA,hkids⟩
 · exact .inl rfl
 · exact .inr ⟨b',o',hA,KidsAt.of (fun i hi => NodeZ.at_ hz _ _ _ (hkids.get i hi))⟩
def ZRow (w : World) (Z : Nat → Prop) : List Tr → List Value → Prop
 | [],xs => xs = []
 | t :: ts,xs => ∃ A c ys,xs = (t.d.head ++ [.slice A t.l.length c]) ++ ys ∧ t.d.ok ∧ SlZ w Z A c t.l ∧ ZRow w Z ts ys
theorem ZRow.len {w : World} {Z : Nat → Prop} : ∀ {ts : List Tr} {xs : List Value},ZRow w Z ts xs → xs.length = ts.length * 22
 | [],xs,h => by simp only [ZRow] at h; subst h; rfl
 | t :: ts,xs,h => by
  simp only [ZRow] at h
  obtain ⟨A,c,ys,rfl,_,_,h2⟩:=h
  have h3 : (t.d.head ++ [Value.slice A t.l.length c]).length = 22:=rfl
  rw [List.length_append,h3,ZRow.len h2,List.length_cons]; omega
theorem ZRow.append {w : World} {Z : Nat → Prop} : ∀ {ts us : List Tr} {xs ys : List Value},ZRow w Z ts xs → ZRow w Z us ys → ZRow w Z (ts ++ us) (xs ++ ys)
 | [],us,xs,ys,h,h' => by simp only [ZRow] at h; subst h; simpa using h'
 | t :: ts,us,xs,ys,h,h' => by
  simp only [ZRow] at h
  obtain ⟨A,c,zs,rfl,hd,h1,h2⟩:=h
  simp only [List.cons_append,ZRow]
  exact ⟨A,c,zs ++ ys,by simp,hd,h1,ZRow.append h2 h'⟩
theorem ZRow.one_ {w : World} {Z : Nat → Prop} {t : Tr} {A : Option Addr} {c : Nat} (hd : t.d.ok) (hs : SlZ w Z A c t.l) : ZRow w Z [t] (t.d.head ++ [.slice A t.l.length c]):=by
 simp only [ZRow]
 exact ⟨A,c,[],by simp,hd,hs,rfl⟩
theorem ZRow.move {w w' : World} {Z Z' : Nat → Prop} (hz : ∀ k,Z k → Z' k) (hk : ∀ p : Addr,Z p.block → w'.cell? p = w.cell? p) : ∀ {ts : List Tr} {xs : List Value},ZRow w Z ts xs → ZRow w' Z' ts xs
 | [],xs,h => h
 | t :: ts,xs,h => by
  simp only [ZRow] at h ⊢
  obtain ⟨A,c,ys,rfl,hd,h1,h2⟩:=h
  exact ⟨A,c,ys,rfl,hd,h1.move hz hk,ZRow.move hz hk h2⟩
theorem ZRow.kids {w : World} {Z : Nat → Prop} {g : Nat} (hg : Z g) : ∀ {ts : List Tr} {xs : List Value} {o : Nat},ZRow w Z ts xs → (∀ j u,xs[j]? = some u → w.cell? ⟨g,o + j,none⟩ = some u) → KidsZ w Z g o ts
 | [],xs,o,h,hc => by simp [KidsZ]
 | t :: ts,xs,o,h,hc => by
  simp only [ZRow] at h
  obtain ⟨A,c,ys,rfl,hd,hs,h2⟩:=h
  have hl : (t.d.head ++ [Value.slice A t.l.length c]).length = 22:=rfl
  simp only [KidsZ]
  refine ⟨?_,ZRow.kids hg h2 (fun j u hu => ?_)⟩
  · obtain ⟨d,l⟩:=t
    simp only [Tr.d,Tr.l] at hd hs hl hc
    simp only [NodeZ]
    refine ⟨hg,hd,A,c,fun j hj => ?_,hs⟩
    obtain ⟨u,hu⟩ : ∃ u,(d.head ++ [Value.slice A l.length c])[j]? = some u:=⟨_,List.getElem?_eq_getElem (by rw [hl]; exact hj)⟩
    have h1 : (nodeA d A l.length c)[j]? = (d.head ++ [Value.slice A l.length c])[j]?:=by simp [nodeA]
    rw [h1,hu]
    exact hc j u (by rw [List.getElem?_append_left (by rw [hl]; exact hj)]; exact hu)
  · have:=hc (22 + j) u (by rw [List.getElem?_append_right (by rw [hl]; omega),hl]; simpa using hu)
    rwa [show o + 22 + j = o + (22 + j) by omega]
end Go.Proofs.YtelombedjkbckaaGreatDoor
namespace Go.Proofs.YtelombedjkbckaaGreatDoor
open Go.RowKit Go.Shelf
def zeroTr : Tr:=.mk zeroND []
def RS.head (c : Nat) (r : RS) : ND × Int × RS :=
 if c = 79 then ({ zeroND with kind:=1,a:=r.corner.1 },0,r.corner.2)
 else if c = 80 then ({ zeroND with kind:=3,a:=r.corner.1 },0,r.corner.2)
 else if c = 82 then ({ zeroND with kind:=2,a:=r.corner.1,b:=(r.corner.2.skip [58]).corner.1 },0,(r.corner.2.skip [58]).corner.2)
 else if c = 67 then ({ zeroND with kind:=4,name:=r.sized.1 },(r.sized.2.skip [44]).number.1,(r.sized.2.skip [44]).number.2)
 else if c = 85 then ({ zeroND with kind:=5,name:=r.sign.1 },1,r.sign.2)
 else if c = 66 then ({ zeroND with kind:=6,name:=r.sign.1 },2,r.sign.2)
 else if c = 77 then ({ zeroND with kind:=7,name:=r.sized.1 },0,r.sized.2)
 else if c = 65 then ({ zeroND with kind:=8,rows:=r.number.1 },(r.number.2.skip [44]).number.1,(r.number.2.skip [44]).number.2)
 else if c = 88 then ({ zeroND with kind:=9 },0,r)
 else ({ zeroND with v:=(r.value c).1 },0,(r.value c).2)
def RS.kids (g : RS → Tr × RS) : Nat → RS → List Tr × RS
 | 0,r => ([],r)
 | k + 1,r => if r.bad = true then ([],r) else ((g r).1 :: (RS.kids g k (g r).2).1,(RS.kids g k (g r).2).2)
def RS.begin_ (r : RS) : RS:={ r with nodes:=r.nodes + 1,rest:=r.rest.extract 1 r.rest.size }
def RS.node : Nat → RS → Tr × RS
 | 0,r => (zeroTr,{ r with nodes:=r.nodes + 1,bad:=true })
 | f + 1,r =>
  if r.rest.size = 0 ∨ 256 < r.nodes + 1 then (zeroTr,{ r with nodes:=r.nodes + 1,bad:=true })
  else (.mk (RS.head (r.rest.data.toList.getD 0 0).toNat r.begin_).1 (RS.kids (RS.node f) (RS.head (r.rest.data.toList.getD 0 0).toNat r.begin_).2.1.toNat ((RS.head (r.rest.data.toList.getD 0 0).toNat r.begin_).2.2.skip [59])).1,
   (RS.kids (RS.node f) (RS.head (r.rest.data.toList.getD 0 0).toNat r.begin_).2.1.toNat ((RS.head (r.rest.data.toList.getD 0 0).toNat r.begin_).2.2.skip [59])).2)
theorem id_fst (r : RS) : r.id.1.1 = r.number.1:=by simp only [RS.id]
theorem id_snd (r : RS) : r.id.1.2 = (r.number.2.skip [46]).number.1:=by simp only [RS.id]
theorem id_ok1 (r : RS) : i64 r.id.1.1:=by rw [id_fst]; exact number_i64 r
theorem id_ok2 (r : RS) : i64 r.id.1.2:=by rw [id_snd]; exact number_i64 _
theorem corner_ok (r : RS) : r.corner.1.ok:=by
 unfold RS.corner Cn.ok
 dsimp only
 exact ⟨id_ok1 _,id_ok2 _,id_ok1 _,id_ok2 _⟩
theorem rsized_le (r : RS) : r.sized.2.rest.size ≤ r.rest.size ∧ r.sized.1.size ≤ r.rest.size:=by
 have h1:=number_le r
 have h2:=skip_le [58] r.number.2
 unfold RS.sized
 dsimp only
 split
 · exact ⟨by dsimp only; omega,Nat.zero_le _⟩
 · refine ⟨?_,?_⟩
   · simp; omega
   · simp; omega
theorem sign_le (r : RS) : r.sign.2.rest.size ≤ r.rest.size ∧ r.sign.1.size ≤ r.rest.size:=by
 unfold RS.sign
 dsimp only
 split
 · exact ⟨Nat.le_refl _,Nat.zero_le _⟩
 · refine ⟨by simp,?_⟩
   simp; omega
theorem rcorner_le (r : RS) : r.corner.2.rest.size ≤ r.rest.size:=by
 have h1:=rid_le r
 have h2:=skip_le [44] r.id.2
 have h3:=rid_le (r.id.2.skip [44])
 have h4:=skip_le [44] (r.id.2.skip [44]).id.2
 have h5:=number_le ((r.id.2.skip [44]).id.2.skip [44])
 simp only [RS.corner]
 omega
theorem value_le (c : Nat) (r : RS) : (r.value c).2.rest.size ≤ r.rest.size:=by
 unfold RS.value
 by_cases k0 : c = 78
 · rw [if_pos k0]
   have h1:=number_le r
   have h2:=skip_le [101] r.number.2
   have h3:=number_le (r.number.2.skip [101])
   dsimp only
   omega
 rw [if_neg k0]
 by_cases k1 : c = 83
 · rw [if_pos k1]; exact (rsized_le r).1
 rw [if_neg k1]
 by_cases k2 : c = 84
 · rw [if_pos k2]; exact Nat.le_refl _
 rw [if_neg k2]
 by_cases k3 : c = 70
 · rw [if_pos k3]; exact Nat.le_refl _
 rw [if_neg k3]
 by_cases k4 : c = 69
 · rw [if_pos k4]; exact number_le r
 rw [if_neg k4]
 exact Nat.le_refl _
theorem one64 (n : Int) (h : 0 ≤ n ∧ n ≤ 100) : i64 n:=by unfold i64; omega
theorem z64 : i64 0:=one64 0 (by omega)
theorem noB : noBytes.size ≤ 9223372036854775807:=by decide
theorem value_ok (c : Nat) (r : RS) (hs : r.rest.size ≤ 1048576) : (r.value c).1.ok:=by
 have h4:=(rsized_le r).2
 unfold RS.value
 by_cases k0 : c = 78
 · rw [if_pos k0]; unfold Vl.ok; dsimp only; exact ⟨one64 1 (by omega),number_i64 _,number_i64 _,noB,z64⟩
 rw [if_neg k0]
 by_cases k1 : c = 83
 · rw [if_pos k1]; unfold Vl.ok; dsimp only; exact ⟨one64 2 (by omega),z64,z64,by omega,z64⟩
 rw [if_neg k1]
 by_cases k2 : c = 84
 · rw [if_pos k2]; unfold Vl.ok; dsimp only; exact ⟨one64 3 (by omega),z64,z64,noB,z64⟩
 rw [if_neg k2]
 by_cases k3 : c = 70
 · rw [if_pos k3]; unfold Vl.ok; dsimp only; exact ⟨one64 3 (by omega),z64,z64,noB,z64⟩
 rw [if_neg k3]
 by_cases k4 : c = 69
 · rw [if_pos k4]; unfold Vl.ok; dsimp only; exact ⟨one64 4 (by omega),z64,z64,noB,number_i64 _⟩
 rw [if_neg k4]
 unfold Vl.ok zeroV; dsimp only; exact ⟨z64,z64,z64,noB,z64⟩
end Go.Proofs.YtelombedjkbckaaGreatDoor
namespace Go.Proofs.YtelombedjkbckaaGreatDoor
open Go.RowKit Go.Shelf
theorem id_nodes (r : RS) : r.id.2.nodes = r.nodes:=by simp only [RS.id,number_nodes,skip_nodes]
theorem corner_nodes (r : RS) : r.corner.2.nodes = r.nodes:=by simp only [RS.corner,number_nodes,skip_nodes,id_nodes]
theorem sized_nodes (r : RS) : r.sized.2.nodes = r.nodes:=by
 unfold RS.sized
 dsimp only
 split <;> simp only [number_nodes,skip_nodes]
theorem sign_nodes (r : RS) : r.sign.2.nodes = r.nodes:=by
 unfold RS.sign
 dsimp only
 split <;> rfl
theorem value_ind {P : Vl × RS → Prop} (c : Nat) (r : RS) (h1 : P (⟨1,r.number.1,(r.number.2.skip [101]).number.1,noBytes,false,0⟩,(r.number.2.skip [101]).number.2)) (h2 : P (⟨2,0,0,r.sized.1,false,0⟩,r.sized.2)) (h3 : P (⟨3,0,0,noBytes,true,0⟩,r)) (h4 : P (⟨3,0,0,noBytes,false,0⟩,r)) (h5 : P (⟨4,0,0,noBytes,false,r.number.1⟩,r.number.2)) (h6 : P (zeroV,{ r with bad:=true })) : P (r.value c):=by
 unfold RS.value
 by_cases k0 : c = 78
 · rw [if_pos k0]; exact h1
 rw [if_neg k0]
 by_cases k1 : c = 83
 · rw [if_pos k1]; exact h2
 rw [if_neg k1]
 by_cases k2 : c = 84
 · rw [if_pos k2]; exact h3
 rw [if_neg k2]
 by_cases k3 : c = 70
 · rw [if_pos k3]; exact h4
 rw [if_neg k3]
 by_cases k4 : c = 69
 · rw [if_pos k4]; exact h5
 rw [if_neg k4]
 exact h6
theorem head_ind {P : ND × Int × RS → Prop} (c : Nat) (r : RS) (h1 : P ({ zeroND with kind := 1, a := r.corner.1 }, 0, r.corner.2)) (h2 : P ({ zeroND with kind := 3, a := r.corner.1 }, 0, r.corner.2))
 (h3 : P ({ zeroND with kind:=2,a:=r.corner.1,b:=(r.corner.2.skip [58]).corner.1 },0,(r.corner.2.skip [58]).corner.2)) (h4 : P ({ zeroND with kind:=4,name:=r.sized.1 },(r.sized.2.skip [44]).number.1,(r.sized.2.skip [44]).number.2))
 (h5 : P ({ zeroND with kind:=5,name:=r.sign.1 },1,r.sign.2)) (h6 : P ({ zeroND with kind:=6,name:=r.sign.1 },2,r.sign.2)) (h7 : P ({ zeroND with kind:=7,name:=r.sized.1 },0,r.sized.2))
 (h8 : P ({ zeroND with kind:=8,rows:=r.number.1 },(r.number.2.skip [44]).number.1,(r.number.2.skip [44]).number.2)) (h9 : P ({ zeroND with kind:=9 },0,r)) (h10 : P ({ zeroND with v:=(r.value c).1 },0,(r.value c).2)) : P (RS.head c r):=by
 unfold RS.head
 by_cases k1 : c = 79
 · rw [if_pos k1]; exact h1
 rw [if_neg k1]
 by_cases k2 : c = 80
 · rw [if_pos k2]; exact h2
 rw [if_neg k2]
 by_cases k3 : c = 82
 · rw [if_pos k3]; exact h3
 rw [if_neg k3]
 by_cases k4 : c = 67
 · rw [if_pos k4]; exact h4
 rw [if_neg k4]
 by_cases k5 : c = 85
 · rw [if_pos k5]; exact h5
 rw [if_neg k5]
 by_cases k6 : c = 66
 · rw [if_pos k6]; exact h6
 rw [if_neg k6]
 by_cases k7 : c = 77
 · rw [if_pos k7]; exact h7
 rw [if_neg k7]
 by_cases k8 : c = 65
 · rw [if_pos k8]; exact h8
 rw [if_neg k8]
 by_cases k9 : c = 88
 · rw [if_pos k9]; exact h9
 rw [if_neg k9]
 exact h10
theorem value_nodes (c : Nat) (r : RS) : (r.value c).2.nodes = r.nodes:=by
 refine value_ind (P:=fun x => x.2.nodes = r.nodes) c r ?_ ?_ ?_ ?_ ?_ ?_ <;> simp only [number_nodes,skip_nodes,sized_nodes]
theorem head_nodes (c : Nat) (r : RS) : (RS.head c r).2.2.nodes = r.nodes:=by
 refine head_ind (P:=fun x => x.2.2.nodes = r.nodes) c r ?_ ?_ ?_ ?_ ?_ ?_ ?_ ?_ ?_ ?_ <;> simp only [number_nodes,skip_nodes,sized_nodes,sign_nodes,corner_nodes,value_nodes]
theorem head_le (c : Nat) (r : RS) : (RS.head c r).2.2.rest.size ≤ r.rest.size:=by
 have c1:=rcorner_le r
 have c2:=skip_le [58] r.corner.2
 have c3:=rcorner_le (r.corner.2.skip [58])
 have s1:=(rsized_le r).1
 have s2:=skip_le [44] r.sized.2
 have s3:=number_le (r.sized.2.skip [44])
 have g1:=(sign_le r).1
 have n1:=number_le r
 have n2:=skip_le [44] r.number.2
 have n3:=number_le (r.number.2.skip [44])
 have v1:=value_le c r
 refine head_ind (P:=fun x => x.2.2.rest.size ≤ r.rest.size) c r ?_ ?_ ?_ ?_ ?_ ?_ ?_ ?_ ?_ ?_ <;> dsimp only <;> omega
theorem okND {k : Int} {v : Vl} {n : ByteArray} {a b : Cn} {r : Int} (h1 : i64 k) (h2 : v.ok) (h3 : n.size ≤ 9223372036854775807) (h4 : a.ok) (h5 : b.ok) (h6 : i64 r) : ND.ok ⟨k,v,n,a,b,r⟩:=by
 unfold ND.ok
 exact ⟨h1,h2,h3,h4,h5,h6⟩
theorem zVv : zeroND.v.ok:=by unfold Vl.ok; exact ⟨z64,z64,z64,noB,z64⟩
theorem zCa : zeroND.a.ok:=by unfold Cn.ok; exact ⟨z64,z64,z64,z64⟩
theorem zCb : zeroND.b.ok:=by unfold Cn.ok; exact ⟨z64,z64,z64,z64⟩
theorem zNm : zeroND.name.size ≤ 9223372036854775807:=noB
theorem zRw : i64 zeroND.rows:=z64
theorem zKd : i64 zeroND.kind:=z64
theorem head_ok (c : Nat) (r : RS) (hs : r.rest.size ≤ 1048576) : (RS.head c r).1.ok:=by
 have s1:=(rsized_le r).2
 have g1:=(sign_le r).2
 refine head_ind (P:=fun x => x.1.ok) c r ?_ ?_ ?_ ?_ ?_ ?_ ?_ ?_ ?_ ?_
 · exact okND (one64 1 (by omega)) zVv zNm (corner_ok r) zCb zRw
 · exact okND (one64 3 (by omega)) zVv zNm (corner_ok r) zCb zRw
 · exact okND (one64 2 (by omega)) zVv zNm (corner_ok r) (corner_ok _) zRw
 · exact okND (one64 4 (by omega)) zVv (show r.sized.1.size ≤ 9223372036854775807 by omega) zCa zCb zRw
 · exact okND (one64 5 (by omega)) zVv (show r.sign.1.size ≤ 9223372036854775807 by omega) zCa zCb zRw
 · exact okND (one64 6 (by omega)) zVv (show r.sign.1.size ≤ 9223372036854775807 by omega) zCa zCb zRw
 · exact okND (one64 7 (by omega)) zVv (show r.sized.1.size ≤ 9223372036854775807 by omega) zCa zCb zRw
 · exact okND (one64 8 (by omega)) zVv zNm zCa zCb (number_i64 r)
 · exact okND (one64 9 (by omega)) zVv zNm zCa zCb zRw
 · exact okND zKd (value_ok c r hs) zNm zCa zCb zRw
theorem head_i64 (c : Nat) (r : RS) : i64 (RS.head c r).2.1:=by
 refine head_ind (P:=fun x => i64 x.2.1) c r ?_ ?_ ?_ ?_ ?_ ?_ ?_ ?_ ?_ ?_ <;> dsimp only
 · exact z64
 · exact z64
 · exact z64
 · exact number_i64 _
 · exact one64 1 (by omega)
 · exact one64 2 (by omega)
 · exact z64
 · exact number_i64 _
 · exact z64
 · exact z64
theorem value_text (c : Nat) (r : RS) : (r.value c).1.text.size ≤ r.rest.size:=by
 have s1:=(rsized_le r).2
 refine value_ind (P:=fun x => x.1.text.size ≤ r.rest.size) c r ?_ ?_ ?_ ?_ ?_ ?_ <;> dsimp only
 · exact Nat.zero_le _
 · exact s1
 · exact Nat.zero_le _
 · exact Nat.zero_le _
 · exact Nat.zero_le _
 · exact Nat.zero_le _
theorem head_short (c : Nat) (r : RS) : (RS.head c r).1.name.size ≤ r.rest.size ∧ (RS.head c r).1.v.text.size ≤ r.rest.size:=by
 have s1:=(rsized_le r).2
 have g1:=(sign_le r).2
 have z : ∀ n,zeroND.name.size ≤ n:=fun n => Nat.zero_le _
 have z' : ∀ n,zeroND.v.text.size ≤ n:=fun n => Nat.zero_le _
 refine head_ind (P:=fun x => x.1.name.size ≤ r.rest.size ∧ x.1.v.text.size ≤ r.rest.size) c r ?_ ?_ ?_ ?_ ?_ ?_ ?_ ?_ ?_ ?_ <;> dsimp only
 · exact ⟨z _,z' _⟩
 · exact ⟨z _,z' _⟩
 · exact ⟨z _,z' _⟩
 · exact ⟨s1,z' _⟩
 · exact ⟨g1,z' _⟩
 · exact ⟨g1,z' _⟩
 · exact ⟨s1,z' _⟩
 · exact ⟨z _,z' _⟩
 · exact ⟨z _,z' _⟩
 · exact ⟨z _,value_text c r⟩
theorem kids_zero (g : RS → Tr × RS) (r : RS) : RS.kids g 0 r = ([],r):=rfl
theorem kids_bad (g : RS → Tr × RS) (k : Nat) (r : RS) (h : r.bad = true) : RS.kids g k r = ([],r):=by
 cases k with
 | zero => rfl
 | succ k => rw [RS.kids,if_pos h]
theorem kids_succ (g : RS → Tr × RS) (k : Nat) (r : RS) (h : r.bad = false) : RS.kids g (k + 1) r = ((g r).1 :: (RS.kids g k (g r).2).1,(RS.kids g k (g r).2).2):=by
 rw [RS.kids,if_neg (by rw [h]; decide)]
theorem kids_nodes (g : RS → Tr × RS) (hg : ∀ r,(g r).1.size + r.nodes = (g r).2.nodes) : ∀ k r,Tr.sizes (RS.kids g k r).1 + r.nodes = (RS.kids g k r).2.nodes
 | 0,r => by simp [RS.kids,Tr.sizes]
 | k + 1,r => by
  cases hb : r.bad with
  | true => rw [kids_bad g _ r hb]; simp [Tr.sizes]
  | false =>
   rw [kids_succ g k r hb]
   dsimp only
   have h1:=kids_nodes g hg k (g r).2
   have h2:=hg r
   rw [Tr.sizes]; omega
def RS.behind (r : RS) : RS:=(RS.head (r.rest.data.toList.getD 0 0).toNat r.begin_).2.2.skip [59]
theorem begin_nodes (r : RS) : r.begin_.nodes = r.nodes + 1:=rfl
theorem begin_le (r : RS) : r.begin_.rest.size ≤ r.rest.size:=by
 show (r.rest.extract 1 r.rest.size).size ≤ r.rest.size
 simp
theorem behind_nodes (r : RS) : r.behind.nodes = r.nodes + 1:=by rw [RS.behind,skip_nodes,head_nodes,begin_nodes]
theorem behind_le (r : RS) : r.behind.rest.size ≤ r.rest.size:=by
 have h1:=skip_le [59] (RS.head (r.rest.data.toList.getD 0 0).toNat r.begin_).2.2
 have h2:=head_le (r.rest.data.toList.getD 0 0).toNat r.begin_
 have h3:=begin_le r
 unfold RS.behind
 omega
def RS.stops (r : RS) : Prop:=r.rest.size = 0 ∨ 256 < r.nodes + 1
instance (r : RS) : Decidable r.stops:=by unfold RS.stops; infer_instance
theorem node_stop (f : Nat) (r : RS) (h : f = 0 ∨ r.stops) : RS.node f r = (zeroTr,{ r with nodes:=r.nodes + 1,bad:=true }):=by
 cases f with
 | zero => rfl
 | succ f =>
  rcases h with h | h
  · cases h
  · rw [RS.node]; exact if_pos h
theorem node_go (f : Nat) (r : RS) (h : ¬ r.stops) : RS.node (f + 1) r = (.mk (RS.head (r.rest.data.toList.getD 0 0).toNat r.begin_).1 (RS.kids (RS.node f) (RS.head (r.rest.data.toList.getD 0 0).toNat r.begin_).2.1.toNat r.behind).1,(RS.kids (RS.node f) (RS.head (r.rest.data.toList.getD 0 0).toNat r.begin_).2.1.toNat r.behind).2):=by
 rw [RS.node]; exact if_neg h
theorem zeroTr_size : zeroTr.size = 1:=by simp [zeroTr,Tr.size,Tr.sizes]
theorem node_nodes : ∀ f r,(RS.node f r).1.size + r.nodes = (RS.node f r).2.nodes
 | 0,r => by rw [node_stop 0 r (.inl rfl)]; dsimp only; rw [zeroTr_size]; omega
 | f + 1,r => by
  by_cases h : r.stops
  · rw [node_stop _ r (.inr h)]; dsimp only; rw [zeroTr_size]; omega
  · rw [node_go f r h]
    dsimp only
    have h1:=kids_nodes (RS.node f) (node_nodes f) (RS.head (r.rest.data.toList.getD 0 0).toNat r.begin_).2.1.toNat r.behind
    rw [behind_nodes] at h1
    rw [Tr.size]; omega
def RS.Cap (r : RS) : Prop:=r.nodes ≤ 257 ∧ (r.bad = false → r.nodes ≤ 256)
theorem kids_cap (g : RS → Tr × RS) (hg : ∀ r,r.nodes ≤ 256 → (g r).2.Cap) : ∀ k r,r.Cap → (RS.kids g k r).2.Cap
 | 0,r,h => h
 | k + 1,r,h => by
  cases hb : r.bad with
  | true => rw [kids_bad g _ r hb]; exact h
  | false =>
   rw [kids_succ g k r hb]
   exact kids_cap g hg k _ (hg r (h.2 hb))
theorem node_cap : ∀ f r,r.nodes ≤ 256 → (RS.node f r).2.Cap
 | 0,r,h => by rw [node_stop 0 r (.inl rfl)]; exact ⟨by dsimp only; omega,fun e => by cases e⟩
 | f + 1,r,h => by
  by_cases hst : r.stops
  · rw [node_stop _ r (.inr hst)]; exact ⟨by dsimp only; omega,fun e => by cases e⟩
  · rw [node_go f r hst]
    refine kids_cap _ (node_cap f) _ _ ?_
    have h1:=behind_nodes r
    have h2 : r.nodes + 1 ≤ 256:=by unfold RS.stops at hst; omega
    exact ⟨by omega,fun _ => by omega⟩
theorem kids_le (g : RS → Tr × RS) (hg : ∀ r,(g r).2.rest.size ≤ r.rest.size) : ∀ k r,(RS.kids g k r).2.rest.size ≤ r.rest.size
 | 0,r => Nat.le_refl _
 | k + 1,r => by
  cases hb : r.bad with
  | true => rw [kids_bad g _ r hb]; exact Nat.le_refl _
  | false =>
   rw [kids_succ g k r hb]
   exact Nat.le_trans (kids_le g hg k _) (hg r)
theorem node_le : ∀ f r,(RS.node f r).2.rest.size ≤ r.rest.size
 | 0,r => by rw [node_stop 0 r (.inl rfl)]; exact Nat.le_refl _
 | f + 1,r => by
  by_cases hst : r.stops
  · rw [node_stop _ r (.inr hst)]; exact Nat.le_refl _
  · rw [node_go f r hst]
    exact Nat.le_trans (kids_le _ (node_le f) _ _) (behind_le r)
def ShortN (n : Nat) (l : List Tr) : Prop:=∀ x ∈ l,x.d.name.size ≤ n ∧ x.d.v.text.size ≤ n
theorem ShortN.mono {n m : Nat} {l : List Tr} (h : ShortN n l) (hm : n ≤ m) : ShortN m l:=fun x hx => ⟨Nat.le_trans (h x hx).1 hm,Nat.le_trans (h x hx).2 hm⟩
theorem kids_short (g : RS → Tr × RS) (hl : ∀ r,(g r).2.rest.size ≤ r.rest.size) (hg : ∀ r,ShortN r.rest.size (g r).1.nodes) : ∀ k r,ShortN r.rest.size (Tr.nodess (RS.kids g k r).1)
 | 0,r => fun x hx => by cases hx
 | k + 1,r => by
  cases hb : r.bad with
  | true => rw [kids_bad g _ r hb]; intro x hx; cases hx
  | false =>
   rw [kids_succ g k r hb]
   intro x hx
   rw [Tr.nodess] at hx
   rcases List.mem_append.1 hx with hx | hx
   · exact hg r x hx
   · exact (kids_short g hl hg k (g r).2).mono (hl r) x hx
theorem zero_short (n : Nat) : ShortN n zeroTr.nodes:=by
 intro x hx
 simp only [zeroTr,Tr.nodes,Tr.nodess,List.mem_singleton] at hx
 subst hx
 exact ⟨Nat.zero_le _,Nat.zero_le _⟩
theorem node_short : ∀ f r,ShortN r.rest.size (RS.node f r).1.nodes
 | 0,r => by rw [node_stop 0 r (.inl rfl)]; exact zero_short _
 | f + 1,r => by
  by_cases hst : r.stops
  · rw [node_stop _ r (.inr hst)]; exact zero_short _
  · rw [node_go f r hst]
    intro x hx
    dsimp only at hx
    rw [Tr.nodes] at hx
    rcases List.mem_cons.1 hx with rfl | hx
    · have h:=head_short (r.rest.data.toList.getD 0 0).toNat r.begin_
      have h2:=begin_le r
      exact ⟨Nat.le_trans h.1 h2,Nat.le_trans h.2 h2⟩
    · exact (kids_short _ (node_le f) (node_short f) _ _).mono (behind_le r) x hx
end Go.Proofs.YtelombedjkbckaaGreatDoor
