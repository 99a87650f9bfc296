/- Trees in memory whose nodes lie in blocks of a zone (a predicate on blocks' numbers). No program in sight. Get over a store by its zone; rows of cells with contents in memory of their own. law 28's Build,from region 3 on,and whole. sheet.whole; Cell of a sheet whose axes are ready. -/
import Derived.Test.YtjobojfaocihfaaGreatNdClPyPmPnPfNw
import Derived.Test.YtjobojfaocihfaaGreatQkM
import Derived.Test.YtjobojfaocihfaaGreatOdXgOeOcXnOi
import Derived.Test.YtjobojfaocihfaaGreatQiIq0Is
namespace Go.Proofs.YtjobojfaocihfaaGreat
open Go.RowKit
mutual
def NodeZ (w : World) (Z : Nat → Prop) (b o : Nat) : Tr → Prop
 | .mk d l => Z b ∧ d.ok ∧ ∃ A c,NodeCells w b o d A l.length c ∧ l.length ≤ c ∧ c ≤ 9223372036854775807 ∧ (l = [] ∨ ∃ b' o',A = some ⟨b',o',none⟩ ∧ KidsZ w Z b' o' l)
def KidsZ (w : World) (Z : Nat → Prop) (b o : Nat) : List Tr → Prop
 | [] => True
 | t :: ts => NodeZ w Z b o t ∧ KidsZ w Z b (o + 22) ts
end
def SlZ (w : World) (Z : Nat → Prop) (A : Option Addr) (c : Nat) (l : List Tr) : Prop:=l.length ≤ c ∧ c ≤ 9223372036854775807 ∧ (l = [] ∨ ∃ b' o',A = some ⟨b',o',none⟩ ∧ KidsZ w Z b' o' l)
theorem KidsZ.get {w : World} {Z : Nat → Prop} {b : Nat} : ∀ {l : List Tr} {o : Nat},KidsZ w Z b o l → ∀ i (h : i < l.length),NodeZ w Z b (o + i * 22) l[i]
 | [],_,_,i,h => by simp at h
 | t :: ts,o,hk,0,_ => by simp only [KidsZ] at hk; simpa using hk.1
 | t :: ts,o,hk,i + 1,h => by
  simp only [KidsZ] at hk
  have:=KidsZ.get hk.2 i (by simpa using h)
  simp only [List.getElem_cons_succ]
  rw [show o + (i + 1) * 22 = o + 22 + i * 22 by omega]
  exact this
theorem KidsZ.of {w : World} {Z : Nat → Prop} {b : Nat} : ∀ {l : List Tr} {o : Nat},(∀ i (h : i < l.length),NodeZ w Z b (o + i * 22) l[i]) → KidsZ w Z b o l
 | [],_,_ => by simp [KidsZ]
 | t :: ts,o,h => by
  simp only [KidsZ]
  refine ⟨by have h0:=h 0 (by simp); rw [Nat.zero_mul,Nat.add_zero] at h0; exact h0,KidsZ.of (fun i hi => ?_)⟩
  have:=h (i + 1) (by simpa using hi)
  simp only [List.getElem_cons_succ] at this
  rw [show o + 22 + i * 22 = o + (i + 1) * 22 by omega]
  exact this
theorem NodeZ.move {w w' : World} {Z Z' : Nat → Prop} (hz : ∀ k,Z k → Z' k) (hk : ∀ p : Addr,Z p.block → w'.cell? p = w.cell? p) (t : Tr) : ∀ b o,NodeZ w Z b o t → NodeZ w' Z' b o t:=by
 induction t using Tr.ind with
 | _ d l ih =>
  intro b o h
  simp only [NodeZ] at h ⊢
  obtain ⟨hb,hd,A,c,hc,h1,h2,h3⟩:=h
  refine ⟨hz _ hb,hd,A,c,hc.keep (fun p hp => hk p (by rw [hp]; exact hb)),h1,h2,?_⟩
  rcases h3 with rfl | ⟨b',o',hA,hkids⟩
  · exact .inl rfl
  · exact .inr ⟨b',o',hA,KidsZ.of (fun i hi => ih _ (List.getElem_mem hi) _ _ (hkids.get i hi))⟩
theorem SlZ.move {w w' : World} {Z Z' : Nat → Prop} {A : Option Addr} {c : Nat} {l : List Tr} (h : SlZ w Z A c l) (hz : ∀ k,Z k → Z' k) (hk : ∀ p : Addr,Z p.block → w'.cell? p = w.cell? p) : SlZ w' Z' A c l:=by
 obtain ⟨h1,h2,h3⟩:=h
 refine ⟨h1,h2,?_⟩
 rcases h3 with rfl | ⟨b',o',hA,hkids⟩
 · exact .inl rfl
 · exact .inr ⟨b',o',hA,KidsZ.of (fun i hi => NodeZ.move hz hk _ _ _ (hkids.get i hi))⟩
theorem SlZ.nil (w : World) (Z : Nat → Prop) (A : Option Addr) (c : Nat) (hc : c ≤ 9223372036854775807) : SlZ w Z A c []:=⟨Nat.zero_le _,hc,.inl rfl⟩
theorem NodeZ.at_ {w : World} {Z : Nat → Prop} {B : Nat} (hz : ∀ k,Z k → k < B) (t : Tr) : ∀ b o,NodeZ w Z b o t → NodeAt w B b o t:=by
 induction t using Tr.ind with
 | _ d l ih =>
  intro b o h
  simp only [NodeZ] at h
  simp only [NodeAt]
  obtain ⟨hb,hd,A,c,hc,h1,h2,h3⟩:=h
  refine ⟨hz _ hb,hd,A,c,hc,h1,h2,?_⟩
  rcases h3 with rfl | ⟨b',o',hA,hkids⟩
  · exact .inl rfl
  · exact .inr ⟨b',o',hA,KidsAt.of (fun i hi => ih _ (List.getElem_mem hi) _ _ (hkids.get i hi))⟩
theorem SlZ.at_ {w : World} {Z : Nat → Prop} {B : Nat} {A : Option Addr} {c : Nat} {l : List Tr} (h : SlZ w Z A c l) (hz : ∀ k,Z k → k < B) : SlAt w B A c l:=by
 obtain ⟨h1,h2,h3⟩:=h
 refine ⟨h1,h2,?_⟩
 rcases h3 with rfl | ⟨b',o',hA,hkids⟩
 · exact .inl rfl
 · exact .inr ⟨b',o',hA,KidsAt.of (fun i hi => NodeZ.at_ hz _ _ _ (hkids.get i hi))⟩
def ZRow (w : World) (Z : Nat → Prop) : List Tr → List Value → Prop
 | [],xs => xs = []
 | t :: ts,xs => ∃ A c ys,xs = (t.d.head ++ [.slice A t.l.length c]) ++ ys ∧ t.d.ok ∧ SlZ w Z A c t.l ∧ ZRow w Z ts ys
theorem ZRow.len {w : World} {Z : Nat → Prop} : ∀ {ts : List Tr} {xs : List Value},ZRow w Z ts xs → xs.length = ts.length * 22
 | [],xs,h => by simp only [ZRow] at h; subst h; rfl
 | t :: ts,xs,h => by
  simp only [ZRow] at h
  obtain ⟨A,c,ys,rfl,_,_,h2⟩:=h
  have h3 : (t.d.head ++ [Value.slice A t.l.length c]).length = 22:=rfl
  rw [List.length_append,h3,ZRow.len h2,List.length_cons]; omega
theorem ZRow.append {w : World} {Z : Nat → Prop} : ∀ {ts us : List Tr} {xs ys : List Value},ZRow w Z ts xs → ZRow w Z us ys → ZRow w Z (ts ++ us) (xs ++ ys)
 | [],us,xs,ys,h,h' => by simp only [ZRow] at h; subst h; simpa using h'
 | t :: ts,us,xs,ys,h,h' => by
  simp only [ZRow] at h
  obtain ⟨A,c,zs,rfl,hd,h1,h2⟩:=h
  simp only [List.cons_append,ZRow]
  exact ⟨A,c,zs ++ ys,by simp,hd,h1,ZRow.append h2 h'⟩
theorem ZRow.one_ {w : World} {Z : Nat → Prop} {t : Tr} {A : Option Addr} {c : Nat} (hd : t.d.ok) (hs : SlZ w Z A c t.l) : ZRow w Z [t] (t.d.head ++ [.slice A t.l.length c]):=by
 simp only [ZRow]
 exact ⟨A,c,[],by simp,hd,hs,rfl⟩
theorem ZRow.cells1 {w : World} {Z : Nat → Prop} : ∀ {ts : List Tr} {xs : List Value},ZRow w Z ts xs → ∀ u ∈ xs,u.oneCell' = true
 | [],xs,h => by simp only [ZRow] at h; subst h; intro u hu; cases hu
 | t :: ts,xs,h => by
  simp only [ZRow] at h
  obtain ⟨A,c,ys,rfl,_,_,h2⟩:=h
  intro u hu
  rcases List.mem_append.1 hu with hu | hu
  · exact head_one _ _ _ _ u hu
  · exact ZRow.cells1 h2 u hu
theorem ZRow.move {w w' : World} {Z Z' : Nat → Prop} (hz : ∀ k,Z k → Z' k) (hk : ∀ p : Addr,Z p.block → w'.cell? p = w.cell? p) : ∀ {ts : List Tr} {xs : List Value},ZRow w Z ts xs → ZRow w' Z' ts xs
 | [],xs,h => h
 | t :: ts,xs,h => by
  simp only [ZRow] at h ⊢
  obtain ⟨A,c,ys,rfl,hd,h1,h2⟩:=h
  exact ⟨A,c,ys,rfl,hd,h1.move hz hk,ZRow.move hz hk h2⟩
theorem ZRow.kids {w : World} {Z : Nat → Prop} {g : Nat} (hg : Z g) : ∀ {ts : List Tr} {xs : List Value} {o : Nat},ZRow w Z ts xs → (∀ j u,xs[j]? = some u → w.cell? ⟨g,o + j,none⟩ = some u) → KidsZ w Z g o ts
 | [],xs,o,h,hc => by simp [KidsZ]
 | t :: ts,xs,o,h,hc => by
  simp only [ZRow] at h
  obtain ⟨A,c,ys,rfl,hd,hs,h2⟩:=h
  have hl : (t.d.head ++ [Value.slice A t.l.length c]).length = 22:=rfl
  simp only [KidsZ]
  refine ⟨?_,ZRow.kids hg h2 (fun j u hu => ?_)⟩
  · obtain ⟨d,l⟩:=t
    simp only [Tr.d,Tr.l] at hd hs hl hc
    simp only [NodeZ]
    refine ⟨hg,hd,A,c,fun j hj => ?_,hs⟩
    obtain ⟨u,hu⟩ : ∃ u,(d.head ++ [Value.slice A l.length c])[j]? = some u:=⟨_,List.getElem?_eq_getElem (by rw [hl]; exact hj)⟩
    have h1 : (nodeA d A l.length c)[j]? = (d.head ++ [Value.slice A l.length c])[j]?:=by simp [nodeA]
    rw [h1,hu]
    exact hc j u (by rw [List.getElem?_append_left (by rw [hl]; exact hj)]; exact hu)
  · have:=hc (22 + j) u (by rw [List.getElem?_append_right (by rw [hl]; omega),hl]; simpa using hu)
    rwa [show o + 22 + j = o + (22 + j) by omega]
end Go.Proofs.YtjobojfaocihfaaGreat
namespace Go.Proofs.YtjobojfaocihfaaGreat
set_option linter.unusedSimpArgs false
set_option linter.unusedVariables false
open Go Go.RowKit Go.Shelf Go.Maps
def getM (M : List (Ad × Ct)) (a : Ad) : Ct:=(getA M a).getD zCt
theorem getZ_c {w : World} {p n : Nat} {M : List (Ad × Ct)} {Z : Nat → Prop} (h : StZ w p n M Z) (a : Ad) (ha : a.ok) :
 Calls Tryz.prog 19 #[.pointer (some ⟨p,0,none⟩),a.val] w (CopyC w (getM M a)):=by
 obtain ⟨m,D,T,h1,h3,h4,h5,h6⟩:=h
 unfold getM
 cases hg : getA M a with
 | none =>
  have hhas : Maps.has D a.key = false:=by rw [h3.has a ha,hg]; rfl
  refine (getC_miss w p m n D h1 a ha hhas).mono ?_
  rintro e w' ⟨rfl,hb⟩
  exact ⟨none,0,rfl,⟨Nat.le_refl 0,by omega,.inl rfl⟩,hb⟩
 | some x =>
  have hmem:=(getA_mem h3.order).1 hg
  obtain ⟨A,c,hat,hs⟩:=h3.val a x hmem
  have hfit:=(h3.ok a x hmem).2
  have hhas : Maps.has D a.key = true:=by rw [h3.has a ha,hg]; rfl
  have:=getC_hit w p m n D h1 a ha x A c hfit.d (hs.at_ (B:=w.heap.size) (fun b _ hb => (h6 b hb).2.2.2)) hfit.size hhas hat
  rw [right_cp hfit] at this
  exact this
theorem getM_ok {w : World} {p n : Nat} {M : List (Ad × Ct)} {Z : Nat → Prop} (h : StZ w p n M Z) (a : Ad) : getM M a = zCt ∨ (getM M a).fit:=by
 obtain ⟨m,D,T,h1,h3,h4,h5,h6⟩:=h
 unfold getM
 cases hg : getA M a with
 | none => exact .inl rfl
 | some x => exact .inr (h3.ok a x ((getA_mem h3.order).1 hg)).2
def ARow (w : World) (Z : Nat → Prop) : List (Ad × Ct) → List Value → Prop
 | [],xs => xs = []
 | e :: es,xs => ∃ (A : Option Addr) (c : Nat) (ys : List Value),xs = (acA e.1 e.2 A c).toList ++ ys ∧ SlZ w Z A c e.2.t.l ∧ ARow w Z es ys
theorem ARow.len {w : World} {Z : Nat → Prop} : ∀ {es : List (Ad × Ct)} {xs : List Value},ARow w Z es xs → xs.length = es.length * 33
 | [],xs,h => by simp only [ARow] at h; subst h; rfl
 | e :: es,xs,h => by
  simp only [ARow] at h
  obtain ⟨A,c,ys,rfl,h1,h2⟩:=h
  rw [List.length_append,ARow.len h2,List.length_cons,Array.length_toList,acA_size]; omega
theorem ARow.append {w : World} {Z : Nat → Prop} : ∀ {es fs : List (Ad × Ct)} {xs ys : List Value},ARow w Z es xs → ARow w Z fs ys → ARow w Z (es ++ fs) (xs ++ ys)
 | [],fs,xs,ys,h,h' => by simp only [ARow] at h; subst h; simpa using h'
 | e :: es,fs,xs,ys,h,h' => by
  simp only [ARow] at h
  obtain ⟨A,c,zs,rfl,h1,h2⟩:=h
  simp only [List.cons_append,ARow]
  exact ⟨A,c,zs ++ ys,by simp,h1,ARow.append h2 h'⟩
theorem ARow.one_ {w : World} {Z : Nat → Prop} {e : Ad × Ct} {A : Option Addr} {c : Nat} (h : SlZ w Z A c e.2.t.l) : ARow w Z [e] (acA e.1 e.2 A c).toList:=by
 simp only [ARow]
 exact ⟨A,c,[],by simp,h,rfl⟩
theorem ARow.move {w w' : World} {Z Z' : Nat → Prop} (hz : ∀ k,Z k → Z' k) (hk : ∀ p : Addr,Z p.block → w'.cell? p = w.cell? p) : ∀ {es : List (Ad × Ct)} {xs : List Value},ARow w Z es xs → ARow w' Z' es xs
 | [],xs,h => h
 | e :: es,xs,h => by
  simp only [ARow] at h ⊢
  obtain ⟨A,c,ys,h0,h1,h2⟩:=h
  exact ⟨A,c,ys,h0,SlZ.move h1 hz hk,ARow.move hz hk h2⟩
theorem ARow.cells1 {w : World} {Z : Nat → Prop} : ∀ {es : List (Ad × Ct)} {xs : List Value},ARow w Z es xs → ∀ u ∈ xs,u.oneCell' = true
 | [],xs,h => by simp only [ARow] at h; subst h; intro u hu; cases hu
 | e :: es,xs,h => by
  simp only [ARow] at h
  obtain ⟨A,c,ys,rfl,h1,h2⟩:=h
  intro u hu
  rcases List.mem_append.1 hu with hu | hu
  · have:=acA_one e.1 e.2 A c
    rw [Array.all_eq_true_iff_forall_mem] at this
    exact this u (by simpa using hu)
  · exact ARow.cells1 h2 u hu
theorem ARow.at_ {w : World} {Z : Nat → Prop} {g : Nat} : ∀ {es : List (Ad × Ct)} {xs : List Value} {o : Nat},ARow w Z es xs → (∀ j u,xs[j]? = some u → w.cell? ⟨g,o + j,none⟩ = some u) → ∀ j (h : j < es.length),∃ A c,w.rangeAt g (o + j * 33) (acA es[j].1 es[j].2 A c).toList ∧ SlZ w Z A c es[j].2.t.l
 | [],xs,o,h,_,j,hj => absurd hj (Nat.not_lt_zero _)
 | e :: es,xs,o,h,hc,j,hj => by
  simp only [ARow] at h
  obtain ⟨A,c,ys,rfl,h1,h2⟩:=h
  have hl : (acA e.1 e.2 A c).toList.length = 33:=by rw [Array.length_toList,acA_size]
  match j,hj with
  | 0,_ =>
   refine ⟨A,c,fun i v hv => ?_,h1⟩
   rw [Nat.zero_mul,Nat.add_zero]
   have hv' : (acA e.1 e.2 A c).toList[i]? = some v:=hv
   exact hc i v (by rw [List.getElem?_append_left (List.getElem?_eq_some_iff.1 hv').1]; exact hv')
  | j + 1,hj =>
   have:=ARow.at_ (o:=o + 33) h2 (fun i u hu => by
    have:=hc (33 + i) u (by rw [List.getElem?_append_right (by omega),hl,Nat.add_sub_cancel_left]; exact hu)
    rwa [← Nat.add_assoc] at this) j (by simpa using hj)
   obtain ⟨A',c',k1,k2⟩:=this
   refine ⟨A',c',?_,k2⟩
   have e2 : o + (j + 1) * 33 = o + 33 + j * 33:=by omega
   rw [e2]
   exact k1
end Go.Proofs.YtjobojfaocihfaaGreat
namespace Go.Proofs.YtjobojfaocihfaaGreat
set_option maxRecDepth 100000
set_option maxHeartbeats 8000000
set_option linter.unusedSimpArgs false
set_option linter.unusedVariables false
open Go Go.RowKit Go.Shelf Go.Maps
theorem mod10 {R Ra : Nat} (hRa : Ra = R % 10) : ((R : Int).tmod 10) = ((Ra : Nat) : Int):=by rw [Int.tmod_eq_emod_of_nonneg (by omega)]; omega
theorem wrap_lt {R : Nat} (hR : R < 256) : wrap64 (R : Int) = R:=by unfold wrap64; omega
theorem bld_3_7 : fromRegion 7 (fromRegion 3 buildC) = fromRegion 7 buildC:=by kernel_rfl
theorem ShZ.lower {W : World} {lo lo' s p q ce na n : Nat} {L M : IL} {C : List (Ad × Ct)} {Zr Zc Zs : Nat → Prop} (h : ShZ W lo s p q ce na n L M C Zr Zc Zs) (hl : lo' ≤ lo) : ShZ W lo' s p q ce na n L M C Zr Zc Zs :=
 ⟨h.own,h.rows,h.cols,h.cells,h.names,Nat.le_trans hl h.los,fun b hb => Nat.le_trans hl (h.loz b hb),h.sn,h.dis,⟨h.lt.1,h.lt.2.1,Nat.le_trans hl h.lt.2.2⟩⟩
theorem StZ.small {W : World} {p n : Nat} {M : List (Ad × Ct)} {Z : Nat → Prop} (h : StZ W p n M Z) : StZ W p n M (fun b => Z b ∧ b < W.heap.size):=by
 obtain ⟨m,D,T,h1,h3,h4,h5,h6⟩:=h
 refine ⟨m,D,T,h1,h3,⟨h4,(Jg h1.1).1⟩,fun b e => ⟨h5 b e,?_⟩,fun b hb => ⟨⟨(h6 b hb).1,(h6 b hb).2.2.2⟩,(h6 b hb).2⟩⟩
 subst e
 have h2 : W.ownsMap Tryz.prog 43 heldR b n D:=h1.2
 obtain ⟨x,y,z,-⟩:=h2
 exact (Jg z).1
theorem ShZ.small {W : World} {lo s p q ce na n : Nat} {L M : IL} {C : List (Ad × Ct)} {Zr Zc Zs : Nat → Prop} (h : ShZ W lo s p q ce na n L M C Zr Zc Zs) : ShZ W lo s p q ce na n L M C Zr Zc (fun b => Zs b ∧ b < W.heap.size) :=
 ⟨h.own,h.rows,h.cols,h.cells.small,h.names,h.los,fun b hb => h.loz b (hb.imp id (fun h => h.imp id And.left)),⟨h.sn.1,h.sn.2.1,fun h' => h.sn.2.2 h'.1⟩,fun b => ⟨fun hb => ⟨((h.dis b).1 hb).1,fun h' => ((h.dis b).1 hb).2 h'.1⟩,fun hb h' => (h.dis b).2 hb h'.1⟩,⟨h.lt.1,⟨h.lt.2.1.1,h.lt.2.1.2.1,fun h' => h.lt.2.1.2.2 h'.1⟩,h.lt.2.2⟩⟩
theorem bld3 (u0 u2 u3 u4 u5 u6 u7 u8 u9 uA uB uC uD uE uF uG uH uI uJ uK uL uM uN uO uP uQ uR uS uT uU uV uW uX uY uZ ua ub uc ud ue uf ug uh ui uj uk ul um un uo up uq ur ut uu uv uw ux uy uz UA UB UC UD UE UF UG UH UI UJ UK UL UM UN UO UP UQ UR US UT UU UV UW UX UY UZ Ua Ub Uc Ud Ue Uf Ug Uh Ui Uj Uk Ul Um Un Uo Up Uq Ur Us Ut Uu Uv Uw Ux Uy Uz VA VB VC VD VE VF VG VH VI VJ VK VL VM VN VO VP VQ VR VS VT VU VV : Value) (P : Pn) (w W : World) (g R K Ra Ka : Nat) (Adx : Option Addr) (cd : Nat) (Acx : Option Addr) (cc : Nat)
 (hR : Ra = P.rows % 10) (hK : Ka = P.cols % 10) (hRa : Ra = R % 10) (hKa : Ka = K % 10) (hR8 : R < 256) (hK8 : K < 256) (hbw : Below w.heap.size w W) (hd : AdSl w w.heap.size Adx cd P.dead) (hnd : P.dead.length ≤ 20) (hce : ACSl w w.heap.size Acx cc P.cells) (hnc : P.cells.length ≤ 40) (hg : g < W.heap.size) (c0 : W.cell? ⟨g,0,none⟩ = some (.int .u8 R)) (c1 : W.cell? ⟨g,1,none⟩ = some (.int .u8 K)) (hgc : W.cell? ⟨g,2,none⟩ = some (.slice Adx P.dead.length cd)) (hgc3 : W.cell? ⟨g,3,none⟩ = some (.slice Acx P.cells.length cc)) :
 (fromRegion 3 buildC).wp Tryz.prog (bodyPost Tryz.prog Tryz.f9 (BuiltPost P w)) ⟨#[u0,.pointer (some ⟨g,0,none⟩),u2,u3,u4,u5,u6,u7,u8,u9,uA,uB,uC,uD,uE,uF,uG,uH,uI,uJ,uK,uL,uM,uN,uO,uP,uQ,uR,uS,uT,uU,uV,uW,uX,uY,uZ,ua,ub,uc,ud,ue,uf,ug,uh,ui,uj,uk,ul,um,un,uo,up,uq,ur,ut,uu,uv,uw,ux,uy,uz,UA,UB,UC,UD,UE,UF,UG,UH,UI,UJ,UK,UL,UM,UN,UO,UP,UQ,UR,US,UT,UU,UV,UW,UX,UY,UZ,Ua,Ub,Uc,Ud,Ue,Uf,Ug,Uh,Ui,Uj,Uk,Ul,Um,Un,Uo,Up,Uq,Ur,Us,Ut,Uu,Uv,Uw,Ux,Uy,Uz,VA,VB,VC,VD,VE,VF,VG,VH,VI,VJ,VK,VL,VM,VN,VO,VP,VQ,VR,VS,VT,VU,VV],[]⟩ W:=by
 have hR9 : Ra ≤ 9:=by omega
 have hK9 : Ka ≤ 9:=by omega
 dsimp only
 have e7:=cut_from 7 (fromRegion 3 buildC)
 rw [bld_3_7] at e7
 obtain ⟨CO,hCO⟩ : ∃ CO,CO = fromRegion 7 buildC:=⟨_,rfl⟩
 rw [← hCO] at e7
 have HCO:=Jh hCO
 clear hCO
 obtain ⟨lo,hlo⟩ : ∃ lo,lo = W.heap.size:=⟨_,rfl⟩
 have hend : ∀ (wr : World) (s p q ce na : Nat) (Zr Zc Zs : Nat → Prop) (u0 u3 u4 u5 u8 u9 uA uB uC uD uE uF uG uH uI uJ uK uL uM uN uO uP uQ uR uS uT uU uV uW uX uY uZ ua ub uc ud ue uf ug uh ui uj uk ul um un uo up uq ur ut uu uv uw ux uy uz UA UB UC UD UE UF UG UH UI UJ UK UL UM UN UO UP UQ UR US UT UU UV UW UX UY UZ Ua Ub Uc Ud Ue Uf Ug Uh Ui Uj Uk Ul Um Un Uo Up Uq Ur Us Ut Uu Uv Uw Ux Uy Uz VA VB VC VD VE VF VG VH VI VJ VK VL VM VN VO VP VQ VR VS VT VU VV : Value),ShZ wr lo s p q ce na 0 (allL (freshL Ra)) (allL (freshL Ka)) [] Zr Zc Zs → Below lo W wr → CO.wp Tryz.prog (bodyPost Tryz.prog Tryz.f9 (BuiltPost P w)) ⟨#[u0,.pointer (some ⟨g,0,none⟩),.pointer (some ⟨s,0,none⟩),u3,u4,u5,.int .i64 (Ra : Nat),.int .i64 (Ka : Nat),u8,u9,uA,uB,uC,uD,uE,uF,uG,uH,uI,uJ,uK,uL,uM,uN,uO,uP,uQ,uR,uS,uT,uU,uV,uW,uX,uY,uZ,ua,ub,uc,ud,ue,uf,ug,uh,ui,uj,uk,ul,um,un,uo,up,uq,ur,ut,uu,uv,uw,ux,uy,uz,UA,UB,UC,UD,UE,UF,UG,UH,UI,UJ,UK,UL,UM,UN,UO,UP,UQ,UR,US,UT,UU,UV,UW,UX,UY,UZ,Ua,Ub,Uc,Ud,Ue,Uf,Ug,Uh,Ui,Uj,Uk,Ul,Um,Un,Uo,Up,Uq,Ur,Us,Ut,Uu,Uv,Uw,Ux,Uy,Uz,VA,VB,VC,VD,VE,VF,VG,VH,VI,VJ,VK,VL,VM,VN,VO,VP,VQ,VR,VS,VT,VU,VV],[]⟩ wr:=by
  intro wr s p q ce na Zr Zc Zs u0 u3 u4 u5 u8 u9 uA uB uC uD uE uF uG uH uI uJ uK uL uM uN uO uP uQ uR uS uT uU uV uW uX uY uZ ua ub uc ud ue uf ug uh ui uj uk ul um un uo up uq ur ut uu uv uw ux uy uz UA UB UC UD UE UF UG UH UI UJ UK UL UM UN UO UP UQ UR US UT UU UV UW UX UY UZ Ua Ub Uc Ud Ue Uf Ug Uh Ui Uj Uk Ul Um Un Uo Up Uq Ur Us Ut Uu Uv Uw Ux Uy Uz VA VB VC VD VE VF VG VH VI VJ VK VL VM VN VO VP VQ VR VS VT VU VV h1 h3
  rw [HCO.out]
  have hwl : w.heap.size ≤ lo:=by rw [hlo]; exact hbw.size
  have hbwr : Below w.heap.size w wr:=hbw.trans (h3.mono hwl)
  have hgl : g < lo:=by rw [hlo]; exact hg
  have hsz : lo ≤ wr.heap.size:=by rw [hlo]; exact h3.size
  have h1:=h1.small
  refine bld7 u0 u3 u4 u5 u8 u9 uA uB uC uD uE uF uG uH uI uJ uK uL uM uN uO uP uQ uR uS uT uU uV uW uX uY uZ ua ub uc ud ue uf ug uh ui uj uk ul um un uo up uq ur ut uu uv uw ux uy uz UA UB UC UD UE UF UG UH UI UJ UK UL UM UN UO UP UQ UR US UT UU UV UW UX UY UZ Ua Ub Uc Ud Ue Uf Ug Uh Ui Uj Uk Ul Um Un Uo Up Uq Ur Us Ut Uu Uv Uw Ux Uy Uz VA VB VC VD VE VF VG VH VI VJ VK VL VM VN VO VP VQ VR VS VT VU VV P w wr (BuiltPost P w) g s p q ce na 0 Ra Ka lo (allL (freshL Ra)) (allL (freshL Ka)) Zr Zc _ Adx cd Acx cc hbwr hd hnd hce hnc hwl hgl ((World.cell?_of_block (a:=⟨g,2,none⟩) (h3.block g hgl)).trans hgc) ((World.cell?_of_block (a:=⟨g,3,none⟩) (h3.block g hgl)).trans hgc3) h1 hsz (fun _ h => h.2) (fresh_Ok (Nat.le_trans hR9 (by decide))) (fresh_Ok (Nat.le_trans hK9 (by decide))) hR9 hK9 ?_ ?_
  · intro W' hb
    exact .inl ⟨rfl,hbwr.trans (hb.mono hwl)⟩
  · intro W' n' C' Zs' A1 c1 A2 c2 k1 k2 k3 k40 k4
    rw [hR] at k1 k2
    rw [hK] at k1 k3
    rw [hR,hK] at k40
    rw [hR,hK]
    exact .inr ⟨s,p,q,ce,na,n',A1,c1,A2,c2,C',Zr,Zc,Zs',rfl,k1.lower hwl,own_le k2 hwl,own_le k3 hwl,k40,hbwr.trans (k4.mono hwl)⟩
 dsimp only at hend
 have hrm:=mod10 hRa
 have hkm:=mod10 hKa
 have hwr:=wrap_lt hR8
 have hwk:=wrap_lt hK8
 have hwr2:=wrap_lt (Nat.lt_of_le_of_lt hR9 (by decide))
 have hwk2:=wrap_lt (Nat.lt_of_le_of_lt hK9 (by decide))
 have HEND:=Jh hend
 have HNEW:=Jh (fun (wx : World) => sheetNewZ_c wx Ra Ka (Nat.le_trans hR9 (by decide)) (Nat.le_trans hK9 (by decide)))
 have HLO:=Jh hlo
 have d0 : W.drew.cell? ⟨g,0,none⟩ = some (.int .u8 R):=c0
 have d1 : W.drew.cell? ⟨g,1,none⟩ = some (.int .u8 K):=c1
 clear hend hbw hd hnd hce hnc hg hgc hgc3 hR hK hlo hR9 hK9 hRa hKa
 rw [← e7]
 clear e7
 conv => arg 2; whnf; repeat (arg 2; whnf)
 go_upto_region 3 with (fail)
 go_big_quiet (fail)
 go_upto_region 4 with (fail)
 go_upto_region 5 with (first | (go_at_call 27; refine (HNEW.out _).mono ?_; rintro e w2 ⟨s,p,q,ce,na,Zr,Zc,Zs,rfl,hsh,hb2⟩; have HSH:=Jh (And.intro hsh hb2); clear hsh hb2) | fail)
 have d2:=cell_of_row _ _ 0 _ _ _ HSH.out.1.own
 have d3:=cell_of_row _ _ 1 _ _ _ HSH.out.1.own
 have d4:=cell_of_row _ _ 2 _ _ _ HSH.out.1.own
 go_wp2_with (fail)
 refine HEND.out _ s p q ce na Zr Zc Zs _ _ _ _ _ _ _ _ _ _ _ _ _ _ _ _ _ _ _ _ _ _ _ _ _ _ _ _ _ _ _ _ _ _ _ _ _ _ _ _ _ _ _ _ _ _ _ _ _ _ _ _ _ _ _ _ _ _ _ _ _ _ _ _ _ _ _ _ _ _ _ _ _ _ _ _ _ _ _ _ _ _ _ _ _ _ _ _ _ _ _ _ _ _ _ _ _ _ _ _ _ _ _ _ _ _ _ _ _ _ _ _ _ _ _ _ _ _ _ _ _ _ _ _ _ _ _ _ _ _ _ (by rw [HLO.out]; exact HSH.out.1) (by rw [HLO.out]; exact (⟨rfl,rfl,rfl,Nat.le_refl _,fun _ _ => rfl⟩ : Below W.heap.size W (W.drewN nq)).trans HSH.out.2)
theorem build_c (P : Pn) (w : World) (Adx : Option Addr) (cd : Nat) (Acx : Option Addr) (cc : Nat) (hr : P.rows < 256) (hc : P.cols < 256) (hd : AdSl w w.heap.size Adx cd P.dead) (hce : ACSl w w.heap.size Acx cc P.cells) :
 Calls Tryz.prog 9 #[.agg (P.val Adx cd Acx cc)] w (BuiltPost P w):=by
 obtain ⟨g,hg⟩ : ∃ g,g = w.heap.size:=⟨_,rfl⟩
 obtain ⟨W,hW⟩ : ∃ W,W = w.alloc (.cells (P.val Adx cd Acx cc) 25):=⟨_,rfl⟩
 have hb : Below w.heap.size w W:=by rw [hW]; exact (Below.refl _ w).alloc (Nat.le_refl _) _
 have hk : W.heap[g]? = some (.cells (P.val Adx cd Acx cc) 25):=by rw [hW,hg]; exact heap_alloc_new _ _
 have hgW : g < W.heap.size:=(Jg hk).1
 have c0 : W.cell? ⟨g,0,none⟩ = some (.int .u8 P.rows):=cell_of_row _ _ 0 _ _ _ hk
 have c1 : W.cell? ⟨g,1,none⟩ = some (.int .u8 P.cols):=cell_of_row _ _ 1 _ _ _ hk
 have c2 : W.cell? ⟨g,2,none⟩ = some (.slice Adx P.dead.length cd):=cell_of_row _ _ 2 _ _ _ hk
 have c3 : W.cell? ⟨g,3,none⟩ = some (.slice Acx P.cells.length cc):=cell_of_row _ _ 3 _ _ _ hk
 have hcd : P.dead.length ≤ cd ∧ cd ≤ 9223372036854775807:=⟨hd.1,hd.2.1⟩
 have hccx : P.cells.length ≤ cc ∧ cc ≤ 9223372036854775807:=⟨hce.1,hce.2.1⟩
 have H3 : P.dead.length ≤ 20 → P.cells.length ≤ 40 → Hid (∀ (u0 u2 u3 u4 u5 u6 u7 u8 u9 uA uB uC uD uE uF uG uH uI uJ uK uL uM uN uO uP uQ uR uS uT uU uV uW uX uY uZ ua ub uc ud ue uf ug uh ui uj uk ul um un uo up uq ur ut uu uv uw ux uy uz UA UB UC UD UE UF UG UH UI UJ UK UL UM UN UO UP UQ UR US UT UU UV UW UX UY UZ Ua Ub Uc Ud Ue Uf Ug Uh Ui Uj Uk Ul Um Un Uo Up Uq Ur Us Ut Uu Uv Uw Ux Uy Uz VA VB VC VD VE VF VG VH VI VJ VK VL VM VN VO VP VQ VR VS VT VU VV : Value),(fromRegion 3 buildC).wp Tryz.prog (bodyPost Tryz.prog Tryz.f9 (BuiltPost P w)) ⟨#[u0,.pointer (some ⟨g,0,none⟩),u2,u3,u4,u5,u6,u7,u8,u9,uA,uB,uC,uD,uE,uF,uG,uH,uI,uJ,uK,uL,uM,uN,uO,uP,uQ,uR,uS,uT,uU,uV,uW,uX,uY,uZ,ua,ub,uc,ud,ue,uf,ug,uh,ui,uj,uk,ul,um,un,uo,up,uq,ur,ut,uu,uv,uw,ux,uy,uz,UA,UB,UC,UD,UE,UF,UG,UH,UI,UJ,UK,UL,UM,UN,UO,UP,UQ,UR,US,UT,UU,UV,UW,UX,UY,UZ,Ua,Ub,Uc,Ud,Ue,Uf,Ug,Uh,Ui,Uj,Uk,Ul,Um,Un,Uo,Up,Uq,Ur,Us,Ut,Uu,Uv,Uw,Ux,Uy,Uz,VA,VB,VC,VD,VE,VF,VG,VH,VI,VJ,VK,VL,VM,VN,VO,VP,VQ,VR,VS,VT,VU,VV],[]⟩ W):=fun h1 h2 => Jh (fun u0 u2 u3 u4 u5 u6 u7 u8 u9 uA uB uC uD uE uF uG uH uI uJ uK uL uM uN uO uP uQ uR uS uT uU uV uW uX uY uZ ua ub uc ud ue uf ug uh ui uj uk ul um un uo up uq ur ut uu uv uw ux uy uz UA UB UC UD UE UF UG UH UI UJ UK UL UM UN UO UP UQ UR US UT UU UV UW UX UY UZ Ua Ub Uc Ud Ue Uf Ug Uh Ui Uj Uk Ul Um Un Uo Up Uq Ur Us Ut Uu Uv Uw Ux Uy Uz VA VB VC VD VE VF VG VH VI VJ VK VL VM VN VO VP VQ VR VS VT VU VV => bld3 u0 u2 u3 u4 u5 u6 u7 u8 u9 uA uB uC uD uE uF uG uH uI uJ uK uL uM uN uO uP uQ uR uS uT uU uV uW uX uY uZ ua ub uc ud ue uf ug uh ui uj uk ul um un uo up uq ur ut uu uv uw ux uy uz UA UB UC UD UE UF UG UH UI UJ UK UL UM UN UO UP UQ UR US UT UU UV UW UX UY UZ Ua Ub Uc Ud Ue Uf Ug Uh Ui Uj Uk Ul Um Un Uo Up Uq Ur Us Ut Uu Uv Uw Ux Uy Uz VA VB VC VD VE VF VG VH VI VJ VK VL VM VN VO VP VQ VR VS VT VU VV P w W g P.rows P.cols (P.rows % 10) (P.cols % 10) Adx cd Acx cc rfl rfl rfl rfl hr hc hb hd h1 hce h2 hgW c0 c1 c2 c3)
 obtain ⟨nd,hnd⟩ : ∃ n,n = P.dead.length:=⟨_,rfl⟩
 obtain ⟨nc,hnc⟩ : ∃ n,n = P.cells.length:=⟨_,rfl⟩
 rw [← hnd] at c2 hcd H3
 rw [← hnc] at c3 hccx H3
 obtain ⟨hcd1,hcd2⟩:=hcd
 obtain ⟨hcc1,hcc2⟩:=hccx
 obtain ⟨PV,hPV⟩ : ∃ PV,PV = P.val Adx cd Acx cc:=⟨_,rfl⟩
 rw [← hPV] at hW hk ⊢
 have HZ : ∀ w',Below w.heap.size w w' → BuiltPost P w (.returned (.tuple #[.pointer none,.slice none 0 0,.slice none 0 0,.int .i64 0])) w':=fun w' h => .inl ⟨rfl,h⟩
 have HG:=Jh hg
 have HW:=Jh hW
 have HZ:=Jh HZ
 have HB:=Jh hb
 have H3:=Jh H3
 clear hnd hnc hd hce hg hW hk hPV hgW hr hc hb
 by_cases hn1 : (40 : Int) < nc
 · go_enter Tryz.func9,Tryz.ntmps9
   go_upto_region 1 with (fail)
   rw [← HW.out,← HG.out]
   go_wp2
   refine bodyPost_ret (v:=.tuple #[.pointer none,.slice none 0 0,.slice none 0 0,.int .i64 0]) (results_tmp4 (a:=2) (b:=3) (c:=4) (d:=5) rfl _ _) rfl ?_
   exact HZ.out _ HB.out
 by_cases hn2 : (20 : Int) < nd
 · go_enter Tryz.func9,Tryz.ntmps9
   go_upto_region 1 with (fail)
   rw [← HW.out,← HG.out]
   go_wp2
   refine bodyPost_ret (v:=.tuple #[.pointer none,.slice none 0 0,.slice none 0 0,.int .i64 0]) (results_tmp4 (a:=2) (b:=3) (c:=4) (d:=5) rfl _ _) rfl ?_
   exact HZ.out _ HB.out
 have H4:=H3.out (by omega) (by omega)
 clear H3
 go_enter Tryz.func9,Tryz.ntmps9
 have e3:=cut_from 3 buildC
 obtain ⟨C,hC⟩ : ∃ C,C = fromRegion 3 buildC:=⟨_,rfl⟩
 rw [← hC] at e3
 have HC:=Jh hC
 clear hC
 change Code.wp Tryz.prog buildC _ _ _
 rw [← e3]
 clear e3
 conv => arg 2; whnf; repeat (arg 2; whnf)
 go_upto_region 1 with (fail)
 rw [← HW.out,← HG.out]
 go_wp2_with (fail)
 rw [HC.out]
 exact H4.out _ _ _ _ _ _ _ _ _ _ _ _ _ _ _ _ _ _ _ _ _ _ _ _ _ _ _ _ _ _ _ _ _ _ _ _ _ _ _ _ _ _ _ _ _ _ _ _ _ _ _ _ _ _ _ _ _ _ _ _ _ _ _ _ _ _ _ _ _ _ _ _ _ _ _ _ _ _ _ _ _ _ _ _ _ _ _ _ _ _ _ _ _ _ _ _ _ _ _ _ _ _ _ _ _ _ _ _ _ _ _ _ _ _ _ _ _ _ _ _ _ _ _ _ _ _ _ _ _ _ _ _ _ _
end Go.Proofs.YtjobojfaocihfaaGreat
namespace Go.Proofs.YtjobojfaocihfaaGreat
set_option maxRecDepth 100000
set_option maxHeartbeats 4000000
set_option linter.unusedSimpArgs false
set_option linter.unusedVariables false
open Go Go.RowKit Go.Shelf Go.Maps
theorem swhole_c {w : World} {s : Nat} {a b c d : Addr} (h : w.heap[s]? = some (.cells #[.pointer (some a),.pointer (some b),.pointer (some c),.pointer (some d)] 66)) : Calls Tryz.prog 42 #[.pointer (some ⟨s,0,none⟩)] w fun e w' => e = .returned (.bool true) ∧ w' = w:=by
 have c0 : w.cell? ⟨s,0,none⟩ = some (.pointer (some a)):=cell_of_row _ _ 0 _ _ _ h
 have c1 : w.cell? ⟨s,1,none⟩ = some (.pointer (some b)):=cell_of_row _ _ 1 _ _ _ h
 have c2 : w.cell? ⟨s,2,none⟩ = some (.pointer (some c)):=cell_of_row _ _ 2 _ _ _ h
 have c3 : w.cell? ⟨s,3,none⟩ = some (.pointer (some d)):=cell_of_row _ _ 3 _ _ _ h
 clear h
 go_enter Tryz.func42,Tryz.ntmps42
 go_wp2
 go_ret
 exact ⟨rfl,rfl⟩
theorem atRk_c {w : World} {p : Nat} {L : IL} (h : AxRd w p L) (hm : L.alive.length ≤ 1000000) (k : Nat) (hk : k < L.alive.length) :
 Calls Tryz.prog 74 #[.pointer (some ⟨p,0,none⟩),.int .i64 k] w fun e w' => e = .returned (.tuple #[.agg #[.int .i64 L.alive[k].a,.int .i64 L.alive[k].n],.bool true]) ∧ Below w.heap.size w w':=by
 obtain ⟨Ai,ci,Al,cl,b,Aa,ca,Av,cv,h⟩:=h
 have:=atR_c h k hm
 have e : atL L.alive k = (L.alive[k],true):=by
  unfold atL
  rw [if_pos ⟨by omega,by omega⟩]
  simp [hk]
 rw [e] at this
 exact this
theorem cellR_c {w : World} {s p q : Nat} {x y : Addr} {L M : IL} (h : w.heap[s]? = some (.cells #[.pointer (some ⟨p, 0, none⟩), .pointer (some ⟨q, 0, none⟩), .pointer (some x), .pointer (some y)] 66)) (h1 : AxRd w p L) (h2 : AxRd w q M) (hm1 : L.alive.length ≤ 1000000) (hm2 : M.alive.length ≤ 1000000) (i j : Nat) (hi : i < L.alive.length) (hj : j < M.alive.length) :
 Calls Tryz.prog 37 #[.pointer (some ⟨s,0,none⟩),.int .i64 i,.int .i64 j] w fun e w' => e = .returned (.tuple #[.agg #[.int .i64 L.alive[i].a,.int .i64 L.alive[i].n,.int .i64 M.alive[j].a,.int .i64 M.alive[j].n],.bool true]) ∧ Below w.heap.size w w':=by
 obtain ⟨g,hg⟩ : ∃ g,g = w.heap.size:=⟨_,rfl⟩
 obtain ⟨W,hW⟩ : ∃ W,W = w.alloc (.cells #[.int .i64 0,.int .i64 0,.int .i64 0,.int .i64 0] 43):=⟨_,rfl⟩
 have hb : Below w.heap.size w W:=by rw [hW]; exact (Below.refl _ w).alloc (Nat.le_refl _) _
 have hk : W.heap[g]? = some (.cells #[.int .i64 0,.int .i64 0,.int .i64 0,.int .i64 0] 43):=by rw [hW,hg]; exact heap_alloc_new _ _
 have hWs : W.heap.size = g + 1:=by rw [hW,hg]; simp
 have hkp : ∀ wx,Below W.heap.size W wx → wx.heap[s]? = some (.cells #[.pointer (some ⟨p,0,none⟩),.pointer (some ⟨q,0,none⟩),.pointer (some x),.pointer (some y)] 66) ∧ wx.heap[g]? = some (.cells #[.int .i64 0,.int .i64 0,.int .i64 0,.int .i64 0] 43):=fun wx hx => ⟨((hb.trans (hx.mono hb.size)).block s (Jg h).1).trans h,(hx.block g (Jg hk).1).trans hk⟩
 have hA1 : ∀ wx,Below W.heap.size W wx → Calls Tryz.prog 74 #[.pointer (some ⟨p,0,none⟩),.int .i64 i] wx fun e w' => e = .returned (.tuple #[.agg #[.int .i64 L.alive[i].a,.int .i64 L.alive[i].n],.bool true]) ∧ Below wx.heap.size wx w':=fun wx hx => atRk_c (h1.below (hb.trans (hx.mono hb.size))) hm1 i hi
 have hA2 : ∀ wx,Below W.heap.size W wx → Calls Tryz.prog 74 #[.pointer (some ⟨q,0,none⟩),.int .i64 j] wx fun e w' => e = .returned (.tuple #[.agg #[.int .i64 M.alive[j].a,.int .i64 M.alive[j].n],.bool true]) ∧ Below wx.heap.size wx w':=fun wx hx => atRk_c (h2.below (hb.trans (hx.mono hb.size))) hm2 j hj
 generalize L.alive[i].a = ra at hA1 ⊢
 generalize L.alive[i].n = rn at hA1 ⊢
 generalize M.alive[j].a = ca at hA2 ⊢
 generalize M.alive[j].n = cn at hA2 ⊢
 have HWH:=Jh (fun wx hx => swhole_c (hkp wx hx).1)
 have HK:=Jh hkp
 have HA1:=Jh hA1
 have HA2:=Jh hA2
 have HW:=Jh hW
 have HG:=Jh hg
 have HB:=Jh (And.intro hb (show w.heap.size ≤ g by omega))
 have HIA:=Jh (show ∀ a b : Value,(Tryz.prog.info? 41).map (·.size) = some (#[a,b] : Array Value).size from fun _ _ => infIk)
 have HI4:=Jh infC4
 have HR:=Jh (Below.refl W.heap.size W)
 clear h h1 h2 hm1 hm2 hi hj hg hW hb hk hWs hkp hA1 hA2
 go_enter Tryz.func37,Tryz.ntmps37
 go_upto_region 1 with (fail)
 change Code.wp _ _ _ _ (w.alloc (.cells #[.int .i64 0,.int .i64 0,.int .i64 0,.int .i64 0] 43))
 rw [← HW.out,← HG.out]
 have c0:=cell_of_row _ _ 0 _ _ _ (HK.out W HR.out).1
 go_upto_region 4 with (first | (go_at_call 42; refine (HWH.out W HR.out).mono ?_; rintro e w' ⟨rfl,hw⟩; rw [hw]; clear hw) | (go_at_call 74; refine (HA1.out _ HR.out).mono ?_; rintro e w2 ⟨rfl,hb2⟩; have HB2:=Jh (HR.out.trans hb2); clear hb2) | (refine wpList_store_row rfl 41 _ _ rfl w2.heap.size #[.int .i64 ra,.int .i64 rn] rfl rfl 41 #[.int .i64 0,.int .i64 0] (heap_alloc_new _ _) (HIA.out _ _) rfl (by kernel_rfl) ?_) | fail)
 obtain ⟨g8,hg8⟩ : ∃ x,x = w2.heap.size:=⟨_,rfl⟩
 obtain ⟨w3,hw3⟩ : ∃ x,x = (w2.alloc (.cells #[.int .i64 0,.int .i64 0] 41)).setRow w2.heap.size #[.int .i64 ra,.int .i64 rn]:=⟨_,rfl⟩
 have hb3 : Below w2.heap.size w2 w3:=by rw [hw3]; exact below_row ((Below.refl _ w2).alloc (Nat.le_refl _) _) (Nat.le_refl _) _
 have hk3 : w3.heap[g8]? = some (.cells #[.int .i64 ra,.int .i64 rn] 41):=by rw [hw3,hg8]; exact setRow_heap _ _ _ _ _ _ (heap_alloc_new _ _)
 have HB3:=Jh (And.intro (HB2.out.trans (hb3.mono HB2.out.size)) hk3)
 change Code.wp _ _ _ _ ((w2.alloc (.cells #[.int .i64 0,.int .i64 0] 41)).setRow w2.heap.size #[.int .i64 ra,.int .i64 rn])
 rw [← hw3,← hg8]
 clear hw3 hb3 hk3 hg8 c0 HA1 HWH
 have c1:=cell_of_row _ _ 1 _ _ _ (HK.out w3 HB3.out.1).1
 go_upto_region 7 with (first | (go_at_call 74; refine (HA2.out _ HB3.out.1).mono ?_; rintro e w4 ⟨rfl,hb4⟩; have HB4:=Jh (And.intro (HB3.out.1.trans (hb4.mono HB3.out.1.size)) ((hb4.block g8 (Jg HB3.out.2).1).trans HB3.out.2)); clear hb4) | (refine wpList_store_row rfl 41 _ _ rfl w4.heap.size #[.int .i64 ca,.int .i64 cn] rfl rfl 41 #[.int .i64 0,.int .i64 0] (heap_alloc_new _ _) (HIA.out _ _) rfl (by kernel_rfl) ?_) | fail)
 obtain ⟨g10,hg10⟩ : ∃ x,x = w4.heap.size:=⟨_,rfl⟩
 obtain ⟨w5,hw5⟩ : ∃ x,x = (w4.alloc (.cells #[.int .i64 0,.int .i64 0] 41)).setRow w4.heap.size #[.int .i64 ca,.int .i64 cn]:=⟨_,rfl⟩
 have hb5 : Below w4.heap.size w4 w5:=by rw [hw5]; exact below_row ((Below.refl _ w4).alloc (Nat.le_refl _) _) (Nat.le_refl _) _
 have hk5 : w5.heap[g10]? = some (.cells #[.int .i64 ca,.int .i64 cn] 41):=by rw [hw5,hg10]; exact setRow_heap _ _ _ _ _ _ (heap_alloc_new _ _)
 have hbf : Below W.heap.size W w5:=HB4.out.1.trans (hb5.mono HB4.out.1.size)
 have HB5:=Jh (And.intro hbf (And.intro hk5 (And.intro ((hb5.block g8 (Jg HB4.out.2).1).trans HB4.out.2) (HK.out w5 hbf).2)))
 change Code.wp _ _ _ _ ((w4.alloc (.cells #[.int .i64 0,.int .i64 0] 41)).setRow w4.heap.size #[.int .i64 ca,.int .i64 cn])
 rw [← hw5,← hg10]
 clear hw5 hb5 hk5 hg10 hbf c1 HA2 HB3 HB4
 go_wp2_with (first | (refine wpList_row rfl 41 _ rfl g8 rfl 41 #[.int .i64 ra,.int .i64 rn] (0,0) _ HB5.out.2.2.1 ikUnd rfl (HIA.out _ _) ?_) | (refine wpList_row rfl 41 _ rfl g10 rfl 41 #[.int .i64 ca,.int .i64 cn] (0,0) _ HB5.out.2.1 ikUnd rfl (HIA.out _ _) ?_) | (refine wpList_store_row rfl 43 _ _ rfl g #[.int .i64 ra,.int .i64 rn,.int .i64 ca,.int .i64 cn] rfl rfl 43 #[.int .i64 0,.int .i64 0,.int .i64 0,.int .i64 0] HB5.out.2.2.2 (HI4.out _ _ _ _) rfl (by kernel_rfl) ?_) | fail)
 refine bodyPost_ret (v:=.tuple #[.agg #[.int .i64 ra,.int .i64 rn,.int .i64 ca,.int .i64 cn],.bool true]) (results_cell_flagA (p:=6) (u:=7) rfl _ _ g 43 #[.int .i64 ra,.int .i64 rn,.int .i64 ca,.int .i64 cn] (0,0) _ rfl (setRow_heap _ _ _ _ _ _ HB5.out.2.2.2) undC4 rfl (HI4.out _ _ _ _)) rfl ?_
 exact ⟨rfl,below_row (HB.out.1.trans (HB5.out.1.mono HB.out.1.size)) HB.out.2 _⟩
end Go.Proofs.YtjobojfaocihfaaGreat
