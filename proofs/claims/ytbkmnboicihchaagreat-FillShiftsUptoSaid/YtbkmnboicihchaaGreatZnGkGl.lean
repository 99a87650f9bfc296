/- Trees in memory whose nodes lie in blocks of a zone (a predicate on blocks' numbers). No program in sight. the reference's gone: its list. the reference's gone,whole. -/
import Derived.Test.YtbkmnboicihchaaGreatNdClPyPmPnPfNwCy
import Derived.Test.YtbkmnboicihchaaGreatGjM
import Derived.Test.YtbkmnboicihchaaGreatOvNo
import Derived.Great.CaseRows
import Derived.Deep.AppendLies
namespace Go.Proofs.YtbkmnboicihchaaGreat
open Go.RowKit
mutual
def NodeZ (w : World) (Z : Nat → Prop) (b o : Nat) : Tr → Prop
 | .mk d l => Z b ∧ d.ok ∧ ∃ A c,NodeCells w b o d A l.length c ∧ l.length ≤ c ∧ c ≤ 9223372036854775807 ∧ (l = [] ∨ ∃ b' o',A = some ⟨b',o',none⟩ ∧ KidsZ w Z b' o' l)
def KidsZ (w : World) (Z : Nat → Prop) (b o : Nat) : List Tr → Prop
 | [] => True
 | t :: ts => NodeZ w Z b o t ∧ KidsZ w Z b (o + 22) ts
end
def SlZ (w : World) (Z : Nat → Prop) (A : Option Addr) (c : Nat) (l : List Tr) : Prop:=l.length ≤ c ∧ c ≤ 9223372036854775807 ∧ (l = [] ∨ ∃ b' o',A = some ⟨b',o',none⟩ ∧ KidsZ w Z b' o' l)
theorem KidsZ.get {w : World} {Z : Nat → Prop} {b : Nat} : ∀ {l : List Tr} {o : Nat},KidsZ w Z b o l → ∀ i (h : i < l.length),NodeZ w Z b (o + i * 22) l[i]
 | [],_,_,i,h => by simp at h
 | t :: ts,o,hk,0,_ => by simp only [KidsZ] at hk; simpa using hk.1
 | t :: ts,o,hk,i + 1,h => by
   simp only [KidsZ] at hk
   have:=KidsZ.get hk.2 i (by simpa using h)
   simp only [List.getElem_cons_succ]
   rw [show o + (i + 1) * 22 = o + 22 + i * 22 by omega]
   exact this
theorem KidsZ.of {w : World} {Z : Nat → Prop} {b : Nat} : ∀ {l : List Tr} {o : Nat},(∀ i (h : i < l.length),NodeZ w Z b (o + i * 22) l[i]) → KidsZ w Z b o l
 | [],_,_ => by simp [KidsZ]
 | t :: ts,o,h => by
   simp only [KidsZ]
   refine ⟨by have h0:=h 0 (by simp); rw [Nat.zero_mul,Nat.add_zero] at h0; exact h0,KidsZ.of (fun i hi => ?_)⟩
   have:=h (i + 1) (by simpa using hi)
   simp only [List.getElem_cons_succ] at this
   rw [show o + 22 + i * 22 = o + (i + 1) * 22 by omega]
   exact this
theorem NodeZ.move {w w' : World} {Z Z' : Nat → Prop} (hz : ∀ k,Z k → Z' k) (hk : ∀ p : Addr,Z p.block → w'.cell? p = w.cell? p) (t : Tr) : ∀ b o,NodeZ w Z b o t → NodeZ w' Z' b o t:=by
 induction t using Tr.ind with
 | _ d l ih =>
   intro b o h
   simp only [NodeZ] at h ⊢
   obtain ⟨hb,hd,A,c,hc,h1,h2,h3⟩:=h
   refine ⟨hz _ hb,hd,A,c,hc.keep (fun p hp => hk p (by rw [hp]; exact hb)),h1,h2,?_⟩
   rcases h3 with rfl | ⟨b',o',hA,hkids⟩
   · exact .inl rfl
   · exact .inr ⟨b',o',hA,KidsZ.of (fun i hi => ih _ (List.getElem_mem hi) _ _ (hkids.get i hi))⟩
theorem SlZ.move {w w' : World} {Z Z' : Nat → Prop} {A : Option Addr} {c : Nat} {l : List Tr} (h : SlZ w Z A c l) (hz : ∀ k,Z k → Z' k) (hk : ∀ p : Addr,Z p.block → w'.cell? p = w.cell? p) : SlZ w' Z' A c l:=by
 obtain ⟨h1,h2,h3⟩:=h
 refine ⟨h1,h2,?_⟩
 rcases h3 with rfl | ⟨b',o',hA,hkids⟩
 · exact .inl rfl
 · exact .inr ⟨b',o',hA,KidsZ.of (fun i hi => NodeZ.move hz hk _ _ _ (hkids.get i hi))⟩
theorem SlZ.nil (w : World) (Z : Nat → Prop) (A : Option Addr) (c : Nat) (hc : c ≤ 9223372036854775807) : SlZ w Z A c []:=⟨Nat.zero_le _,hc,.inl rfl⟩
theorem NodeZ.at_ {w : World} {Z : Nat → Prop} {B : Nat} (hz : ∀ k,Z k → k < B) (t : Tr) : ∀ b o,NodeZ w Z b o t → NodeAt w B b o t:=by
 induction t using Tr.ind with
 | _ d l ih =>
   intro b o h
   simp only [NodeZ] at h
   simp only [NodeAt]
   obtain ⟨hb,hd,A,c,hc,h1,h2,h3⟩:=h
   refine ⟨hz _ hb,hd,A,c,hc,h1,h2,?_⟩
   rcases h3 with rfl | ⟨b',o',hA,hkids⟩
   · exact .inl rfl
   · exact .inr ⟨b',o',hA,KidsAt.of (fun i hi => ih _ (List.getElem_mem hi) _ _ (hkids.get i hi))⟩
theorem SlZ.at_ {w : World} {Z : Nat → Prop} {B : Nat} {A : Option Addr} {c : Nat} {l : List Tr} (h : SlZ w Z A c l) (hz : ∀ k,Z k → k < B) : SlAt w B A c l:=by
 obtain ⟨h1,h2,h3⟩:=h
 refine ⟨h1,h2,?_⟩
 rcases h3 with rfl | ⟨b',o',hA,hkids⟩
 · exact .inl rfl
 · exact .inr ⟨b',o',hA,KidsAt.of (fun i hi => NodeZ.at_ hz _ _ _ (hkids.get i hi))⟩
def ZRow (w : World) (Z : Nat → Prop) : List Tr → List Value → Prop
 | [],xs => xs = []
 | t :: ts,xs => ∃ A c ys,xs = (t.d.head ++ [.slice A t.l.length c]) ++ ys ∧ t.d.ok ∧ SlZ w Z A c t.l ∧ ZRow w Z ts ys
theorem ZRow.len {w : World} {Z : Nat → Prop} : ∀ {ts : List Tr} {xs : List Value},ZRow w Z ts xs → xs.length = ts.length * 22
 | [],xs,h => by simp only [ZRow] at h; subst h; rfl
 | t :: ts,xs,h => by
   simp only [ZRow] at h
   obtain ⟨A,c,ys,rfl,_,_,h2⟩:=h
   have h3 : (t.d.head ++ [Value.slice A t.l.length c]).length = 22:=rfl
   rw [List.length_append,h3,ZRow.len h2,List.length_cons]; omega
theorem ZRow.append {w : World} {Z : Nat → Prop} : ∀ {ts us : List Tr} {xs ys : List Value},ZRow w Z ts xs → ZRow w Z us ys → ZRow w Z (ts ++ us) (xs ++ ys)
 | [],us,xs,ys,h,h' => by simp only [ZRow] at h; subst h; simpa using h'
 | t :: ts,us,xs,ys,h,h' => by
   simp only [ZRow] at h
   obtain ⟨A,c,zs,rfl,hd,h1,h2⟩:=h
   simp only [List.cons_append,ZRow]
   exact ⟨A,c,zs ++ ys,by simp,hd,h1,ZRow.append h2 h'⟩
theorem ZRow.one_ {w : World} {Z : Nat → Prop} {t : Tr} {A : Option Addr} {c : Nat} (hd : t.d.ok) (hs : SlZ w Z A c t.l) : ZRow w Z [t] (t.d.head ++ [.slice A t.l.length c]):=by
 simp only [ZRow]
 exact ⟨A,c,[],by simp,hd,hs,rfl⟩
theorem ZRow.move {w w' : World} {Z Z' : Nat → Prop} (hz : ∀ k,Z k → Z' k) (hk : ∀ p : Addr,Z p.block → w'.cell? p = w.cell? p) : ∀ {ts : List Tr} {xs : List Value},ZRow w Z ts xs → ZRow w' Z' ts xs
 | [],xs,h => h
 | t :: ts,xs,h => by
   simp only [ZRow] at h ⊢
   obtain ⟨A,c,ys,rfl,hd,h1,h2⟩:=h
   exact ⟨A,c,ys,rfl,hd,h1.move hz hk,ZRow.move hz hk h2⟩
theorem ZRow.kids {w : World} {Z : Nat → Prop} {g : Nat} (hg : Z g) : ∀ {ts : List Tr} {xs : List Value} {o : Nat},ZRow w Z ts xs → (∀ j u,xs[j]? = some u → w.cell? ⟨g,o + j,none⟩ = some u) → KidsZ w Z g o ts
 | [],xs,o,h,hc => by simp [KidsZ]
 | t :: ts,xs,o,h,hc => by
   simp only [ZRow] at h
   obtain ⟨A,c,ys,rfl,hd,hs,h2⟩:=h
   have hl : (t.d.head ++ [Value.slice A t.l.length c]).length = 22:=rfl
   simp only [KidsZ]
   refine ⟨?_,ZRow.kids hg h2 (fun j u hu => ?_)⟩
   · obtain ⟨d,l⟩:=t
     simp only [Tr.d,Tr.l] at hd hs hl hc
     simp only [NodeZ]
     refine ⟨hg,hd,A,c,fun j hj => ?_,hs⟩
     obtain ⟨u,hu⟩ : ∃ u,(d.head ++ [Value.slice A l.length c])[j]? = some u:=⟨_,List.getElem?_eq_getElem (by rw [hl]; exact hj)⟩
     have h1 : (nodeA d A l.length c)[j]? = (d.head ++ [Value.slice A l.length c])[j]?:=by simp [nodeA]
     rw [h1,hu]
     exact hc j u (by rw [List.getElem?_append_left (by rw [hl]; exact hj)]; exact hu)
   · have:=hc (22 + j) u (by rw [List.getElem?_append_right (by rw [hl]; omega),hl]; simpa using hu)
     rwa [show o + 22 + j = o + (22 + j) by omega]
end Go.Proofs.YtbkmnboicihchaaGreat
namespace Go.Proofs.YtbkmnboicihchaaGreat
set_option maxRecDepth 100000
set_option maxHeartbeats 8000000
set_option linter.unusedSimpArgs false
set_option linter.unusedVariables false
open Go Go.RowKit Go.Shelf Go.Maps
theorem zeroNK : ((Tryz.prog.info? 34).bind (·.zero)).isSome = true:=by kernel_rfl
theorem wpList_oneNodeK {ops : Array Oper} {rest : List Oper} {o : Oper} {a : Act} {w : World} {Q : Exit → Act → World → Prop} (hg : o.guard = none) (i : Nat) (ho : o.op = .buildSlice 32 1 #[(0, .tmp i)]) (N : Array Value) (hev : a.eval (.tmp i) = .agg N) (hn : N.size = 22)
   (h : wpList Tryz.prog ops Q rest (a.put o.dst (.slice (some ⟨w.heap.size,0,none⟩) 1 1)) (w.alloc (.cells N 34))) : wpList Tryz.prog ops Q (o :: rest) a w:=by
 refine Great.wpList_buildRows hg 32 34 #[(0,.tmp i)] 22 [.agg N] ho (fun _ => i) w.heap.size rfl o.dst rfl undNs infN zeroNK (by decide) (by simp) (by simp) rfl (fun v hv => ?_) (fun j hj => ?_) ?_
 · simp only [List.mem_singleton] at hv; subst hv; exact hn
 · simp only [List.length_singleton,Nat.lt_one_iff] at hj; subst hj; exact hev
 · have e : ([Value.agg N].flatMap fun v => v.cells.toList).toArray = N:=by simp [Value.cells]
   rw [e]; exact h
theorem owns_keepK {w w' : World} {base : Nat} {e : TypeId} {size : Nat} {v : Value} {n : Nat} {xs : List Value} (h : w.ownsRow base e size v n xs) (hk : ∀ k,base ≤ k → k < w.heap.size → w'.heap[k]? = w.heap[k]?) : w'.ownsRow base e size v n xs:=by
 refine ⟨h.1,?_⟩
 rcases h.2 with h2 | ⟨g,cap,cur,h1,h2,h3,h4⟩
 · exact .inl h2
 · exact .inr ⟨g,cap,cur,h1,h2,(hk g h2 (Array.getElem?_eq_some_iff.1 h3).1).trans h3,h4⟩
theorem owns_neK {w : World} {base : Nat} {e : TypeId} {size : Nat} {v : Value} {n : Nat} {xs : List Value} (h : w.ownsRow base e size v n xs) {k : Nat} (hk : k < base) : some k ≠ v.ownBlock:=by
 rcases h.2 with ⟨rfl,_⟩ | ⟨g,cap,cur,rfl,h2,h3,h4⟩
 · intro e; cases e
 · intro e; simp only [Value.ownBlock,Option.some.injEq] at e; omega
theorem owns_ne2K {w : World} {base : Nat} {e : TypeId} {size : Nat} {v : Value} {n : Nat} {xs : List Value} (h : w.ownsRow base e size v n xs) {k : Nat} (hk : w.heap.size ≤ k) : some k ≠ v.ownBlock:=by
 rcases h.2 with ⟨rfl,_⟩ | ⟨g,cap,cur,rfl,h2,h3,h4⟩
 · intro e; cases e
 · intro e; simp only [Value.ownBlock,Option.some.injEq] at e; have:=(Array.getElem?_eq_some_iff.1 h3).1; omega
def ZoneK (h : Nat) (v : Value) (w : World) (k : Nat) : Prop:=h ≤ k ∧ k < w.heap.size ∧ some k ≠ v.ownBlock
def GRel (h0 : Nat) (W wr : World) (G : Tr → Tr) (l : List Tr) (v i : Value) : Prop :=
 ∃ (j : Nat) (A : Option Addr) (cap : Nat) (xs : List Value),j ≤ l.length ∧ i = .int .i64 (j : Nat) ∧ v = .slice A j cap ∧ wr.ownsRow h0 34 22 (.slice A j cap) j xs ∧ ZRow wr (ZoneK h0 (.slice A j cap) wr) ((l.take j).map G) xs ∧ Below h0 W wr
theorem GRel.step {W wr w2 w4 : World} {G : Tr → Tr} {l : List Tr} {h0 j : Nat} {A : Option Addr} {cap : Nat} {xs : List Value} {A2 : Option Addr} {c2 g2 cap2 : Nat} (hb : Below h0 W wr) (hj : j < l.length) (h0W : h0 ≤ W.heap.size) (hown : wr.ownsRow h0 34 22 (.slice A j cap) j xs) (hrow : ZRow wr (ZoneK h0 (.slice A j cap) wr) ((l.take j).map G) xs)
   (hd2 : (G l[j]).d.ok) (hs2 : SlZ w2 (fun k => wr.heap.size ≤ k ∧ k < w2.heap.size) A2 c2 (G l[j]).l) (hb2 : Below wr.heap.size wr w2)
   (hgrow : (w2.alloc (.cells (nodeA (G l[j]).d A2 (G l[j]).l.length c2) 34)).grownBy w4 (Value.slice A j cap).ownBlock)
   (hown4 : w4.ownsRow h0 34 22 (.slice (some ⟨g2,0,none⟩) (j + 1) cap2) (j + 1) (xs ++ (nodeA (G l[j]).d A2 (G l[j]).l.length c2).toList)) (hat : (Value.slice A j cap).ownBlock = some g2 ∨ g2 = w2.heap.size + 1) (i : Value) (hi : i = .int .i64 ((j + 1 : Nat) : Int)) :
   GRel h0 W w4 G l (.slice (some ⟨g2,0,none⟩) (j + 1) cap2) i:=by
 have h2s:=hb2.size
 have hrs:=hb.size
 have h4s : w2.heap.size + 1 ≤ w4.heap.size:=by have:=hgrow.size; rwa [World.size_alloc] at this
 have b24 : ∀ k,k < w2.heap.size → some k ≠ (Value.slice A j cap).ownBlock → w4.heap[k]? = w2.heap[k]?:=fun k hk hne => (hgrow.block k (by rw [World.size_alloc]; omega) hne).trans (heapOld _ _ _ hk)
 have hg2l : g2 < w4.heap.size:=(hown4.lt g2 rfl).2
 have hg2b : h0 ≤ g2:=(hown4.lt g2 rfl).1
 have hz5 : ∀ k,(h0 ≤ k ∧ k < w2.heap.size ∧ some k ≠ (Value.slice A j cap).ownBlock) → ZoneK h0 (.slice (some ⟨g2,0,none⟩) (j + 1) cap2) w4 k:=fun k ⟨h1,h2,h3⟩ => by
   refine ⟨h1,by omega,fun e => ?_⟩
   simp only [Value.ownBlock,Option.some.injEq] at e
   rcases hat with h | h
   · exact h3 (by rw [h,e])
   · omega
 refine ⟨j + 1,some ⟨g2,0,none⟩,cap2,xs ++ (nodeA (G l[j]).d A2 (G l[j]).l.length c2).toList,hj,hi,rfl,hown4,?_,?_⟩
 · rw [List.take_succ_eq_append_getElem hj,List.map_append]
   refine ZRow.append (ZRow.move (fun k hk => hz5 k ⟨hk.1,by have:=hk.2.1; omega,hk.2.2⟩) (fun p hp => World.cell?_of_block ?_) hrow) (ZRow.one_ hd2 (SlZ.move hs2 (fun k hk => hz5 k ⟨by omega,hk.2,owns_ne2K hown hk.1⟩) (fun p hp => World.cell?_of_block ?_)))
   · obtain ⟨p1,p2,p3⟩:=hp
     exact (b24 _ (by omega) p3).trans (hb2.block _ p2)
   · obtain ⟨p1,p2⟩:=hp
     exact b24 _ p2 (owns_ne2K hown p1)
 · refine ⟨hgrow.os.trans (hb2.os.trans hb.os),hgrow.tape.trans (hb2.tape.trans hb.tape),hgrow.output.trans (hb2.output.trans hb.output),by omega,fun k hk => ?_⟩
   exact (b24 k (by omega) (owns_neK hown hk)).trans ((hb2.block k (by omega)).trans (hb.block k hk))
def GonePost (w : World) (r : Tr) (e : Ending) (w' : World) : Prop:=∃ A c,e = .returned (nodeV r.d A r.l.length c) ∧ r.d.ok ∧ SlZ w' (fun k => w.heap.size ≤ k ∧ k < w'.heap.size) A c r.l ∧ Below w.heap.size w w'
theorem GRel.fin {W wr : World} {G : Tr → Tr} {l : List Tr} {h0 lo g g1 : Nat} {d : ND} {A : Option Addr} {cap : Nat} {xs : List Value} (hb : Below h0 W wr) (hlo : lo ≤ h0) (hgl : g < h0 ∧ g1 < h0 ∧ lo ≤ g ∧ lo ≤ g1) (hown : wr.ownsRow h0 34 22 (.slice A l.length cap) l.length xs) (hrow : ZRow wr (ZoneK h0 (.slice A l.length cap) wr) (l.map G) xs) (cs : Array Value) :
   SlZ ((wr.setCell ⟨g,21,none⟩ (.slice A l.length cap)).setRow g1 cs) (fun k => lo ≤ k ∧ k < ((wr.setCell ⟨g,21,none⟩ (.slice A l.length cap)).setRow g1 cs).heap.size) A cap (l.map G) ∧ Below lo W ((wr.setCell ⟨g,21,none⟩ (.slice A l.length cap)).setRow g1 cs):=by
 obtain ⟨wf,hwf⟩ : ∃ x,x = (wr.setCell ⟨g,21,none⟩ (.slice A l.length cap)).setRow g1 cs:=⟨_,rfl⟩
 rw [← hwf]
 have hsz : wf.heap.size = wr.heap.size:=by rw [hwf]; simp
 have hkeep : ∀ k,h0 ≤ k → wf.heap[k]? = wr.heap[k]?:=fun k h => by
   rw [hwf]; exact (setRow_other _ _ _ _ (by omega)).trans (Below.heap_setCell _ _ _ _ (by show k ≠ g; omega))
 refine ⟨?_,?_⟩
 · rcases hown.2 with ⟨hv,h0'⟩ | ⟨gg,cap',cur,hv,hbg,hgg,hnc,hcm,hcs,htk⟩
   · have : l = []:=List.length_eq_zero_iff.1 h0'
     subst this
     simp only [Value.slice.injEq] at hv
     obtain ⟨-,-,rfl⟩:=hv
     exact SlZ.nil _ _ _ _ (by decide)
   · have hcell:=fun j u hu => own_cell hown hv j u hu
     simp only [Value.slice.injEq] at hv
     obtain ⟨rfl,-,rfl⟩:=hv
     have hgl2:=(Array.getElem?_eq_some_iff.1 hgg).1
     refine ⟨by rw [List.length_map]; exact hnc,by unfold maxLen at hcm; omega,.inr ⟨gg,0,rfl,?_⟩⟩
     refine ZRow.kids (Z:=fun k => lo ≤ k ∧ k < wf.heap.size) ⟨by omega,by rw [hsz]; exact hgl2⟩ (ZRow.move (fun k hk => ⟨by have:=hk.1; omega,by rw [hsz]; exact hk.2.1⟩) (fun p hp => World.cell?_of_block (hkeep _ hp.1)) hrow) (fun j u hu => ?_)
     rw [Nat.zero_add]
     exact (World.cell?_of_block (a:=⟨gg,j,none⟩) (hkeep gg hbg)).trans (hcell j u hu)
 · rw [hwf]
   exact below_row ((hb.mono hlo).trans ((Below.refl lo wr).setCell (by show lo ≤ g; omega) _)) (by omega) _
noncomputable def goneR : Code:=Tryz.f29.body.getD .skip
theorem gone12 (u0 u6 u7 u8 u9 u11 u12 u13 u14 u15 u16 u17 u18 u19 u20 u21 u22 u23 u24 u25 u26 u27 u28 u29 u30 u31 u32 u33 u34 u35 u36 u37 u38 u39 u40 u41 u42 u43 u44 u45 u46 u47 u48 u49 u50 u51 u52 u53 u54 u55 u56 u57 u58 u59 u60 u61 u62 u63 u64 u65 u66 u67 u68 u69 u70 u71 u72 u73 u74 u75 u76 u77 u78 u79 u80 u81 u82 u83 u84 u85 u86 u87 u88 u89 u90 u91 u92 u93 : Value) (W : World) (R0 : Ending → World → Prop) (lo B g g1 nr nk c1 c2 c : Nat) (A1 A2 A : Option Addr) (dn rt : Int) (d : ND) (l : List Tr) (G : Tr → Tr)
   (hg : W.heap[g]? = some (.cells (nodeA d A l.length c) 34)) (hz : W.heap[g1]? = some (.cells (nodeA zD none 0 0) 34)) (hne : g ≠ g1) (hlo : lo ≤ g ∧ lo ≤ g1 ∧ lo ≤ W.heap.size) (hB : B ≤ lo) (hd : d.ok) (hs : SlAt W B A c l) (hl : l.length ≤ 1048576)
   (ih : ∀ j (hj : j < l.length) (wx : World) (A' : Option Addr) (c' : Nat),Below lo W wx → l[j].d.ok → SlAt wx B A' c' l[j].l → Calls Tryz.prog 29 #[nodeV l[j].d A' l[j].l.length c',.slice A1 nr c1,.slice A2 nk c2,.int .i64 dn,.int .i64 rt] wx (GonePost wx (G l[j])))
   (hret : ∀ W' A' c',Below lo W W' → SlZ W' (fun k => lo ≤ k ∧ k < W'.heap.size) A' c' (l.map G) → R0 (.returned (nodeV d A' l.length c')) W') :
   (fromRegion 12 goneR).wp Tryz.prog (bodyPost Tryz.prog Tryz.f29 R0) ⟨#[u0,.slice A1 nr c1,.slice A2 nk c2,.int .i64 dn,.int .i64 rt,.pointer (some ⟨g,0,none⟩),u6,u7,u8,u9,.pointer (some ⟨g1,0,none⟩),u11,u12,u13,u14,u15,u16,u17,u18,u19,u20,u21,u22,u23,u24,u25,u26,u27,u28,u29,u30,u31,u32,u33,u34,u35,u36,u37,u38,u39,u40,u41,u42,u43,u44,u45,u46,u47,u48,u49,u50,u51,u52,u53,u54,u55,u56,u57,u58,u59,u60,u61,u62,u63,u64,u65,u66,u67,u68,u69,u70,u71,u72,u73,u74,u75,u76,u77,u78,u79,u80,u81,u82,u83,u84,u85,u86,u87,u88,u89,u90,u91,u92,u93],[]⟩ W:=by
 dsimp only
 obtain ⟨n,hn⟩ : ∃ n,n = l.length:=⟨_,rfl⟩
 obtain ⟨W2,hW2⟩ : ∃ x,x = W.alloc (.cells #[] 34):=⟨_,rfl⟩
 obtain ⟨h0,hh0⟩ : ∃ x,x = W.heap.size:=⟨_,rfl⟩
 have hgl : g < h0 ∧ g1 < h0:=by rw [hh0]; exact ⟨(Array.getElem?_eq_some_iff.1 hg).1,(Array.getElem?_eq_some_iff.1 hz).1⟩
 have hb2 : Below h0 W W2:=by rw [hW2,hh0]; exact (Below.refl _ W).alloc (Nat.le_refl _) _
 have hW2s : W2.heap.size = h0 + 1:=by rw [hW2,hh0]; simp
 have hk2 : W2.heap[h0]? = some (.cells #[] 34):=by rw [hW2,hh0]; exact heap_alloc_new _ _
 have hstart : GRel h0 W2 W2 G l (.slice (some ⟨h0,0,none⟩) 0 0) (.int .i64 0):=⟨0,some ⟨h0,0,none⟩,0,[],Nat.zero_le _,rfl,rfl,⟨rfl,.inr ⟨h0,0,#[],rfl,Nat.le_refl _,hk2,Nat.le_refl _,by unfold maxLen; omega,rfl,rfl⟩⟩,rfl,Below.refl _ _⟩
 have hkp : ∀ wr,Below h0 W2 wr → wr.heap[g]? = some (.cells (nodeA d A n c) 34) ∧ wr.heap[g1]? = some (.cells (nodeA zD none 0 0) 34):=fun wr h => by
   rw [hn]; exact ⟨((h.block g hgl.1).trans (hb2.block g hgl.1)).trans hg,((h.block g1 hgl.2).trans (hb2.block g1 hgl.2)).trans hz⟩
 have hbB : ∀ wr,Below h0 W2 wr → Below lo W wr:=fun wr h => (hb2.trans h).mono (by rw [hh0]; exact hlo.2.2)
 have hsl : ∀ wr,Below h0 W2 wr → SlAt wr B A c l:=fun wr h => hs.below ((hbB wr h).mono hB)
 have hcap : n ≤ c ∧ c ≤ 9223372036854775807:=by rw [hn]; exact ⟨hs.1,hs.2.1⟩
 obtain ⟨hc3,hc4⟩:=hcap
 have hnl : n ≤ 1048576:=by rw [hn]; exact hl
 obtain ⟨ti,hti,hz0,hz1,hz2⟩:=info_parts infoN
 have HTI:=Lib.hid (And.intro hti (And.intro hz0 (And.intro hz1 hz2)))
 have HST:=Lib.hid hstart
 have HKP:=Lib.hid hkp
 have HBB:=Lib.hid hbB
 have HSL:=Lib.hid hsl
 have HIH:=Lib.hid ih
 have HRET:=Lib.hid hret
 have HN:=Lib.hid hn
 have HW2:=Lib.hid hW2
 have HH0:=Lib.hid hh0
 have HGL:=Lib.hid (And.intro hgl (And.intro hlo (And.intro hne (And.intro hb2 (And.intro hW2s hB)))))
 have HD:=Lib.hid hd
 clear hg hz hne hlo hB hd hs hl ih hret hgl hb2 hW2s hk2 hstart hkp hbB hsl hn hW2 hh0 hti hz0 hz1 hz2
 conv => arg 2; whnf; repeat (arg 2; whnf)
 go_upto_region 13 with (fail)
 change Code.wp _ _ _ _ (W.alloc (.cells #[] 34))
 rw [← HW2.out,← HH0.out]
 go_wp2_with (fail)
 go_loopw [16,17] (fun v i wr => GRel h0 W2 wr G l v i) (fun _ i _ => n - (intOf i).toNat)
 case atStart => exact HST.out
 case round =>
   obtain ⟨j,A',cap,xs,hj,rfl,rfl,hown,hrow,hbr⟩:=hrel
   have hkg:=HKP.out wr hbr
   have hgs : g < wr.heap.size:=(Array.getElem?_eq_some_iff.1 hkg.1).1
   have HB:=Lib.hid hbr
   have HOW:=Lib.hid hown
   have HRW:=Lib.hid hrow
   have HKG:=Lib.hid hkg
   have d21 : wr.cell? ⟨g,21,none⟩ = some (.slice A n c):=cell_of_row _ _ 21 _ _ _ hkg.1
   have hjn : j ≤ n:=by rw [HN.out]; exact hj
   by_cases hlt : j < n
   · have hjl : j < l.length:=by rw [← HN.out]; exact hlt
     obtain ⟨kb,ko,hA,hnd⟩:=(HSL.out wr hbr).at_ j hjl
     subst hA
     obtain ⟨hkb,hkd,kA,kc,hcs,hks⟩:=hnd.open_
     obtain ⟨cs,e1,e2,e3⟩:=hcs.range (w':=wr) (fun _ _ => rfl)
     have hih:=HIH.out j hjl wr kA kc (HBB.out wr hbr) hkd hks
     rw [nodeV,← e1] at hih
     have hinf:=infN
     rw [← e2] at hinf
     have HIN:=Lib.hid hinf
     have HRG:=Lib.hid e3
     have HC:=Lib.hid hih
     have hj1 : (j : Int) < (n : Int):=by omega
     have hj0 : (0 : Int) ≤ (j : Int):=by omega
     have hbs : h0 ≤ wr.heap.size:=by have:=hbr.size; have:=HGL.out.2.2.2.2.1; omega
     clear hown hrow hbr hkg hnd hkb hkd hcs hks e1 e2 e3 hih hinf
     go_wp2_with (first | (refine wpList_mid rfl 34 _ rfl kb (ko + j * 22) rfl cs _ HRG.out undN rfl HIN.out ?_) | (go_at_call 29; refine HC.out.mono ?_; rintro e w2 ⟨A2,c2',rfl,hd2,hs2,hb2⟩; obtain ⟨N2,hN2⟩ : ∃ N,N = nodeA (G l[j]).d A2 (G l[j]).l.length c2':=⟨_,rfl⟩; rw [nodeV,← hN2]; have hN2s : N2.size = 22:=(by rw [hN2]; rfl); have hone : ∀ u ∈ N2.toList,u.oneCell' = true:=(by rw [hN2]; exact fun u hu => head_one _ _ _ _ u hu); have hown3 : (w2.alloc (.cells N2 34)).ownsRow h0 34 22 (.slice A' j cap) j xs:=owns_keepK HOW.out (fun k hk hl => (heapOld _ _ _ (Nat.lt_of_lt_of_le hl hb2.size)).trans (hb2.block k hl)); have hw2s : h0 ≤ w2.heap.size:=Nat.le_trans hbs hb2.size; have HN2:=Lib.hid (And.intro hN2 (And.intro hd2 (And.intro hs2 hb2))); have HONE:=Lib.hid hone; have HOW3:=Lib.hid hown3; have HNS:=Lib.hid hN2s; clear hN2 hd2 hs2 hb2 hone hown3 hN2s) | (refine wpList_oneNodeK rfl _ rfl N2 rfl HNS.out ?_) | (at_builtin; refine wpList_append_lies _ rfl (.tmp 78) (.tmp 89) 32 rfl h0 34 ti _ 22 192 undNs HTI.out.1 HTI.out.2.1 HTI.out.2.2.1 HTI.out.2.2.2 rfl (by decide) (.slice A' j cap) j xs rfl HOW3.out ⟨w2.heap.size,0,none⟩ 1 1 N2.toList rfl (by simp [HNS.out]) (World.news_of_block (heap_alloc_new w2 (.cells N2 34))) HONE.out (by decide) (by unfold maxLen; omega) (by omega) (by rw [World.size_alloc]; omega) (w2.heap.size + 1) (by rw [World.size_alloc]) ?_; intro g3 cap3 w4 hown4 hgrow hat hlt4; have HO4:=Lib.hid hown4; have HG4:=Lib.hid hgrow; have HAT:=Lib.hid hat; clear hown4 hgrow hat hlt4) | fail)
     go_roundw
     case measure => simp [intOf]; omega
     case rel =>
       have h1:=HO4.out
       have h2:=HG4.out
       rw [HN2.out.1] at h1 h2
       exact GRel.step HB.out hjl (by have:=HGL.out.2.2.2.2.1; omega) HOW.out HRW.out HN2.out.2.1 HN2.out.2.2.1 HN2.out.2.2.2 h2 h1 HAT.out _ (by go_num)
   · obtain rfl : j = n:=by omega
     have hfX : wr.frozen? ⟨g,21,none⟩ = false:=by simp [World.frozen?,hkg.1]
     have hown':=hown
     have hrow':=hrow
     rw [HN.out,List.take_length] at hrow'
     rw [HN.out] at hown'
     obtain ⟨NA,hNA⟩ : ∃ NA,NA = nodeA d A' j cap:=⟨_,rfl⟩
     have hfin:=GRel.fin (d:=d) hbr (by rw [HH0.out]; exact HGL.out.2.1.2.2) ⟨HGL.out.1.1,HGL.out.1.2,HGL.out.2.1.1,HGL.out.2.1.2.1⟩ hown' hrow' NA
     rw [← HN.out] at hfin
     have hk5 : (wr.setCell ⟨g,21,none⟩ (.slice A' j cap)).heap[g]? = some (.cells NA 34):=by rw [hNA]; exact heap_setCell_same _ _ 21 _ _ _ hkg.1
     have hz5 : (wr.setCell ⟨g,21,none⟩ (.slice A' j cap)).heap[g1]? = some (.cells (nodeA zD none 0 0) 34):=(Below.heap_setCell _ _ _ _ (by show g1 ≠ g; exact fun e => HGL.out.2.2.1 e.symm)).trans hkg.2
     have hNs : NA.size = 22:=by rw [hNA]; rfl
     have hNo : NA.all (·.oneCell') = true:=by rw [hNA]; exact all_oneCell_toArray (fun u hu => head_one _ _ _ _ u hu)
     have HNA:=Lib.hid hNA
     have HK5:=Lib.hid (And.intro hk5 hz5)
     have HNS:=Lib.hid hNs
     have HNO:=Lib.hid hNo
     have HFIN:=Lib.hid hfin
     have hcj : j ≤ cap ∧ cap ≤ 9223372036854775807:=by obtain ⟨_,_,e,h1,h2⟩:=own_parts hown; cases e; exact ⟨h1,h2⟩
     clear hown hrow hbr hkg hown' hrow' hfin hNA hk5 hz5 hNs hNo
     go_wp2_with (first | (refine wpList_row rfl 34 _ rfl g rfl 34 NA (0,0) _ HK5.out.1 undN rfl (infS HNS.out) ?_) | (refine wpList_store_row rfl 34 _ _ rfl g1 NA rfl rfl 34 (nodeA zD none 0 0) HK5.out.2 (infS HNS.out) HNS.out.symm HNO.out ?_) | fail)
     refine bodyPost_ret (v:=.agg NA) (results_cell_row rfl _ _ g1 34 NA (0,0) _ rfl (setRow_heap _ _ _ _ _ _ HK5.out.2) undN rfl (infS HNS.out)) rfl ?_
     have hr:=HRET.out _ A' cap ((HGL.out.2.2.2.1.trans (Below.mono (Below.refl _ _) (Nat.le_refl _))).mono (by rw [HH0.out]; exact HGL.out.2.1.2.2) |>.trans HFIN.out.2) HFIN.out.1
     rw [← HN.out,nodeV,← HNA.out] at hr
     exact hr
end Go.Proofs.YtbkmnboicihchaaGreat
namespace Go.Proofs.YtbkmnboicihchaaGreat
set_option maxRecDepth 100000
set_option maxHeartbeats 8000000
set_option linter.unusedSimpArgs false
set_option linter.unusedVariables false
open Go Go.RowKit Go.Shelf Go.Maps
theorem corn_one (c : Cn) : c.cells.toArray.all (·.oneCell') = true:=all_oneCell_toArray (fun v hv => by
 simp only [Cn.cells,List.mem_cons,List.not_mem_nil,or_false] at hv
 rcases hv with rfl | rfl | rfl | rfl | rfl | rfl <;> rfl)
theorem setA_node {w : World} {g : Nat} {d : ND} {A : Option Addr} {n c : Nat} {c' : Cn} (h : w.heap[g]? = some (.cells (nodeA d A n c) 34)) : (w.setCells g 8 c'.cells).heap[g]? = some (.cells (nodeA { d with a:=c' } A n c) 34):=by
 have h1:=heap_setCell_same w g 8 (nodeA d A n c) 34 (.int .i64 c'.ra) h
 have h2:=heap_setCell_same _ g 9 _ 34 (.int .i64 c'.rn) h1
 have h3:=heap_setCell_same _ g 10 _ 34 (.int .i64 c'.ca) h2
 have h4:=heap_setCell_same _ g 11 _ 34 (.int .i64 c'.cn) h3
 have h5:=heap_setCell_same _ g 12 _ 34 (.bool c'.fr) h4
 have h6:=heap_setCell_same _ g 13 _ 34 (.bool c'.fc) h5
 have e : ((((((nodeA d A n c).setIfInBounds 8 (.int .i64 c'.ra)).setIfInBounds 9 (.int .i64 c'.rn)).setIfInBounds 10 (.int .i64 c'.ca)).setIfInBounds 11 (.int .i64 c'.cn)).setIfInBounds 12 (.bool c'.fr)).setIfInBounds 13 (.bool c'.fc) = nodeA { d with a:=c' } A n c:=by kernel_rfl
 rw [e] at h6
 exact h6
theorem setB_node {w : World} {g : Nat} {d : ND} {A : Option Addr} {n c : Nat} {c' : Cn} (h : w.heap[g]? = some (.cells (nodeA d A n c) 34)) : (w.setCells g 14 c'.cells).heap[g]? = some (.cells (nodeA { d with b:=c' } A n c) 34):=by
 have h1:=heap_setCell_same w g 14 (nodeA d A n c) 34 (.int .i64 c'.ra) h
 have h2:=heap_setCell_same _ g 15 _ 34 (.int .i64 c'.rn) h1
 have h3:=heap_setCell_same _ g 16 _ 34 (.int .i64 c'.ca) h2
 have h4:=heap_setCell_same _ g 17 _ 34 (.int .i64 c'.cn) h3
 have h5:=heap_setCell_same _ g 18 _ 34 (.bool c'.fr) h4
 have h6:=heap_setCell_same _ g 19 _ 34 (.bool c'.fc) h5
 have e : ((((((nodeA d A n c).setIfInBounds 14 (.int .i64 c'.ra)).setIfInBounds 15 (.int .i64 c'.rn)).setIfInBounds 16 (.int .i64 c'.ca)).setIfInBounds 17 (.int .i64 c'.cn)).setIfInBounds 18 (.bool c'.fr)).setIfInBounds 19 (.bool c'.fc) = nodeA { d with b:=c' } A n c:=by kernel_rfl
 rw [e] at h6
 exact h6
theorem node_aR {w : World} {g : Nat} {d : ND} {A : Option Addr} {n c : Nat} (h : w.heap[g]? = some (.cells (nodeA d A n c) 34)) : w.rangeAt g 8 d.a.cells:=fun i v hv => by
 rw [cell_of_row _ _ _ _ _ _ h]
 match i,hv with
 | 0,hv => exact hv
 | 1,hv => exact hv
 | 2,hv => exact hv
 | 3,hv => exact hv
 | 4,hv => exact hv
 | 5,hv => exact hv
theorem node_bR {w : World} {g : Nat} {d : ND} {A : Option Addr} {n c : Nat} (h : w.heap[g]? = some (.cells (nodeA d A n c) 34)) : w.rangeAt g 14 d.b.cells:=fun i v hv => by
 rw [cell_of_row _ _ _ _ _ _ h]
 match i,hv with
 | 0,hv => exact hv
 | 1,hv => exact hv
 | 2,hv => exact hv
 | 3,hv => exact hv
 | 4,hv => exact hv
 | 5,hv => exact hv
theorem there_node {w : World} {g o : Nat} {d : ND} {A : Option Addr} {n c : Nat} (h : w.heap[g]? = some (.cells (nodeA d A n c) 34)) (ho : o + 6 ≤ 22) : w.there g o 6:=fun j hj => by
 have h1 : w.cell? ⟨g,o + j,none⟩ = (nodeA d A n c)[o + j]?:=cell_of_row _ _ _ _ _ _ h
 refine ⟨by rw [h1,Array.getElem?_eq_getElem (by rw [nodeA_size]; omega)]; rfl,by simp [World.frozen?,h]⟩
theorem goneD_ok {w : Wy} (hr : ∀ x ∈ w.rows,x.ok) (hc : ∀ x ∈ w.cols,x.ok) {d d' : ND} (hk : d.ok) (h : goneD w d = some d') : d'.ok:=by
 obtain ⟨k0,k1,k2,k3,k4,k5⟩:=hk
 unfold goneD at h
 split at h
 · obtain ⟨a,ha,rfl⟩:=Option.map_eq_some_iff.1 h
   exact ⟨k0,k1,k2,goneC_ok hr hc k3 ha,k4,k5⟩
 · split at h
   · cases ha : goneC w d.a with
     | none => rw [ha] at h; cases h
     | some a =>
       cases hb : goneC w d.b with
       | none => rw [ha,hb] at h; cases h
       | some b =>
         rw [ha,hb] at h
         obtain rfl:=Option.some.inj h
         exact ⟨k0,k1,k2,goneC_ok hr hc k3 ha,goneC_ok hr hc k4 hb,k5⟩
   · obtain rfl:=Option.some.inj h
     exact ⟨k0,k1,k2,k3,k4,k5⟩
theorem len_sizesK : ∀ l : List Tr,l.length ≤ Tr.sizes l
 | [] => by simp [Tr.sizes]
 | t :: ts => by
   have h1:=len_sizesK ts
   have h2:=t.size_pos
   simp only [List.length_cons,Tr.sizes]
   omega
theorem rgone_c {R K : List Ik} {dn rt : Int} {A1 A2 : Option Addr} {c1 c2 : Nat} (hRl : R.length ≤ 1000) (hKl : K.length ≤ 1000) (hRo : ∀ x ∈ R, x.ok) (hKo : ∀ x ∈ K, x.ok) (hdn : -1000000 ≤ dn ∧ dn ≤ 1000000) (hrt : -1000000 ≤ rt ∧ rt ≤ 1000000) (t : Tr) :
   ∀ (w : World) (base base2 B : Nat) (A : Option Addr) (c : Nat) (_ : w.ownsRow base 27 2 (.slice A1 R.length c1) R.length (ikCells R)) (_ : w.ownsRow base2 27 2 (.slice A2 K.length c2) K.length (ikCells K)) (_ : t.d.ok) (_ : SlAt w B A c t.l) (_ : B ≤ w.heap.size) (_ : t.size ≤ 1048576),
   Calls Tryz.prog 29 #[nodeV t.d A t.l.length c,.slice A1 R.length c1,.slice A2 K.length c2,.int .i64 dn,.int .i64 rt] w (GonePost w (goneT ⟨R,K,dn,rt⟩ t)):=by
 induction t using Tr.ind with | _ d l ih => ?_
 intro w base base2 B A c hR hK hd hs hB hsz
 obtain ⟨WY,hWY⟩ : ∃ x,x = (⟨R,K,dn,rt⟩ : Wy):=⟨_,rfl⟩
 obtain ⟨g,hg⟩ : ∃ g,g = w.heap.size:=⟨_,rfl⟩
 obtain ⟨n,hn⟩ : ∃ n,n = l.length:=⟨_,rfl⟩
 have hszl : Tr.sizes l + 1 ≤ 1048576:=by simpa [Tr.size] using hsz
 have hll : l.length ≤ 1048576:=by have:=len_sizesK l; omega
 have hCO : ∀ (wx : World) (cn : Cn),Below g w wx → Calls Tryz.prog 49 #[.agg cn.cells.toArray,.slice A1 R.length c1,.slice A2 K.length c2,.int .i64 dn,.int .i64 rt] wx fun e w' => ∃ (c' : Cn) (ok : Bool),e = .returned (.tuple #[.agg c'.cells.toArray,.bool ok]) ∧ (if ok = true then goneC WY cn = some c' else goneC WY cn = none) ∧ Below wx.heap.size wx w':=fun wx cn h => by
   rw [hWY]; exact rcorner_c (own_blk_kp hR (hg ▸ h)) (own_blk_kp hK (hg ▸ h)) hRl hKl cn dn rt hdn hrt
 have hLOST : ∀ W',goneD WY d = none → Below g w W' → GonePost w (goneT WY (.mk d l)) (.returned (.agg (nodeA lostND none 0 0))) W':=fun W' h hb => by
   rw [goneT_mk,h]
   exact ⟨none,0,rfl,lost_ok,SlZ.nil _ _ _ _ (by decide),hg ▸ hb⟩
 have hEND : ∀ d', goneD WY d = some d' → ∀ (W' : World) (u0 u6 u7 u8 u9 u11 u12 u13 u14 u15 u16 u17 u18 u19 u20 u21 u22 u23 u24 u25 u26 u27 u28 u29 u30 u31 u32 u33 u34 u35 u36 u37 u38 u39 u40 u41 u42 u43 u44 u45 u46 u47 u48 u49 u50 u51 u52 u53 u54 u55 u56 u57 u58 u59 u60 u61 u62 u63 u64 u65 u66 u67 u68 u69 u70 u71 u72 u73 u74 u75 u76 u77 u78 u79 u80 u81 u82 u83 u84 u85 u86 u87 u88 u89 u90 u91 u92 u93 : Value), W'.heap[g]? = some (.cells (nodeA d' A n c) 34) → W'.heap[g + 1]? = some (.cells (nodeA zD none 0 0) 34) → Below g w W' →
     (fromRegion 12 goneR).wp Tryz.prog (bodyPost Tryz.prog Tryz.f29 (GonePost w (goneT WY (.mk d l)))) ⟨#[u0,.slice A1 R.length c1,.slice A2 K.length c2,.int .i64 dn,.int .i64 rt,.pointer (some ⟨g,0,none⟩),u6,u7,u8,u9,.pointer (some ⟨g + 1,0,none⟩),u11,u12,u13,u14,u15,u16,u17,u18,u19,u20,u21,u22,u23,u24,u25,u26,u27,u28,u29,u30,u31,u32,u33,u34,u35,u36,u37,u38,u39,u40,u41,u42,u43,u44,u45,u46,u47,u48,u49,u50,u51,u52,u53,u54,u55,u56,u57,u58,u59,u60,u61,u62,u63,u64,u65,u66,u67,u68,u69,u70,u71,u72,u73,u74,u75,u76,u77,u78,u79,u80,u81,u82,u83,u84,u85,u86,u87,u88,u89,u90,u91,u92,u93],[]⟩ W':=by
   intro d' hd' W' u0 u6 u7 u8 u9 u11 u12 u13 u14 u15 u16 u17 u18 u19 u20 u21 u22 u23 u24 u25 u26 u27 u28 u29 u30 u31 u32 u33 u34 u35 u36 u37 u38 u39 u40 u41 u42 u43 u44 u45 u46 u47 u48 u49 u50 u51 u52 u53 u54 u55 u56 u57 u58 u59 u60 u61 u62 u63 u64 u65 u66 u67 u68 u69 u70 u71 u72 u73 u74 u75 u76 u77 u78 u79 u80 u81 u82 u83 u84 u85 u86 u87 u88 u89 u90 u91 u92 u93 h1 h2 hb
   have hdk : d'.ok:=goneD_ok (w:=WY) (by rw [hWY]; exact hRo) (by rw [hWY]; exact hKo) hd hd'
   have hgs : g + 1 < W'.heap.size:=(Array.getElem?_eq_some_iff.1 h2).1
   refine gone12 u0 u6 u7 u8 u9 u11 u12 u13 u14 u15 u16 u17 u18 u19 u20 u21 u22 u23 u24 u25 u26 u27 u28 u29 u30 u31 u32 u33 u34 u35 u36 u37 u38 u39 u40 u41 u42 u43 u44 u45 u46 u47 u48 u49 u50 u51 u52 u53 u54 u55 u56 u57 u58 u59 u60 u61 u62 u63 u64 u65 u66 u67 u68 u69 u70 u71 u72 u73 u74 u75 u76 u77 u78 u79 u80 u81 u82 u83 u84 u85 u86 u87 u88 u89 u90 u91 u92 u93 W' _ g B g (g + 1) R.length K.length c1 c2 c A1 A2 A dn rt d' l (goneT WY) (by rw [← hn]; exact h1) h2 (by omega) ⟨Nat.le_refl _,by omega,by omega⟩ (by omega) hdk (hs.below (hb.mono (by omega))) hll ?_ ?_
   · intro j hj wx A' c' hbx hkd hks
     have hbb : Below g w wx:=hb.trans hbx
     rw [hWY]
     refine ih l[j] (List.getElem_mem hj) wx base base2 B A' c' (own_blk_kp hR (hg ▸ hbb)) (own_blk_kp hK (hg ▸ hbb)) hkd hks (by have:=hbb.size; omega) ?_
     have h3:=sizes_take hj
     omega
   · intro W'' A' c' hbx hsz
     rw [goneT_mk,hd']
     refine ⟨A',c',?_,hdk,?_,?_⟩
     · show _ = Ending.returned (nodeV d' A' (l.map (goneT WY)).length c')
       rw [List.length_map]
     · exact SlZ.move hsz (fun k hk => by rw [← hg]; exact hk) (fun _ _ => rfl)
     · rw [← hg]; exact hb.trans hbx
 obtain ⟨N,hN⟩ : ∃ N,N = nodeA d A n c:=⟨_,rfl⟩
 obtain ⟨LA,hLA⟩ : ∃ N,N = nodeA lostND none 0 0:=⟨_,rfl⟩
 obtain ⟨W,hW⟩ : ∃ W,W = (((w.alloc (.cells N 34)).alloc (.cells (nodeA zD none 0 0) 34)).alloc (.cells (nodeA zD none 0 0) 34)).setRow (w.heap.size + 2) LA:=⟨_,rfl⟩
 have hk0 : W.heap[g]? = some (.cells (nodeA d A n c) 34) ∧ W.heap[g + 1]? = some (.cells (nodeA zD none 0 0) 34) ∧ W.heap[g + 2]? = some (.cells LA 34) ∧ Below g w W:=by
   have h3:=heap_alloc_new ((w.alloc (.cells N 34)).alloc (.cells (nodeA zD none 0 0) 34)) (.cells (nodeA zD none 0 0) 34)
   rw [World.size_alloc,World.size_alloc] at h3
   have h2:=heap_alloc_new (w.alloc (.cells N 34)) (.cells (nodeA zD none 0 0) 34)
   rw [World.size_alloc] at h2
   rw [hW,hg,← hN]
   refine ⟨(setRow_other _ _ _ _ (by omega)).trans ((heapOld _ _ _ (by simp <;> omega)).trans ((heapOld _ _ _ (by simp)).trans (heap_alloc_new _ _))),(setRow_other _ _ _ _ (by omega)).trans ((heapOld _ _ _ (by simp)).trans h2),setRow_heap _ _ _ _ _ _ h3,below_row ((((Below.refl _ w).alloc (Nat.le_refl _) _).alloc (by simp) _).alloc (by simp <;> omega) _) (by omega) _⟩
 have hLs : LA.size = 22 ∧ LA.all (·.oneCell') = true:=by rw [hLA]; exact ⟨rfl,node_one _ _ _ _⟩
 have dk : W.cell? ⟨g,0,none⟩ = some (.int .i64 d.kind):=cell_of_row _ _ 0 _ _ _ hk0.1
 have h1d : d.kind = 1 ∨ d.kind = 3 → goneD WY d = (goneC WY d.a).map fun a => { d with a:=a }:=fun h => by unfold goneD; rw [if_pos h]
 have h2d : d.kind = 2 → goneD WY d = (match goneC WY d.a,goneC WY d.b with | some a,some b => some { d with a:=a,b:=b } | _,_ => none):=fun h => by unfold goneD; rw [if_neg (by omega),if_pos h]; rfl
 have h0d : d.kind ≠ 1 → d.kind ≠ 3 → d.kind ≠ 2 → goneD WY d = some d:=fun a b e => by unfold goneD; rw [if_neg (by omega),if_neg e]
 have e12:=cut_from 12 goneR
 obtain ⟨CO,hCOd⟩ : ∃ CO,CO = fromRegion 12 goneR:=⟨_,rfl⟩
 rw [← hCOd] at e12 hEND
 clear hCOd
 dsimp only at hEND
 obtain ⟨RT,hRT⟩ : ∃ x,x = goneT WY (.mk d l):=⟨_,rfl⟩
 rw [← hRT] at hLOST hEND
 rw [← hWY,← hRT]
 obtain ⟨nr,hnr⟩ : ∃ n,n = R.length:=⟨_,rfl⟩
 obtain ⟨nk,hnk⟩ : ∃ n,n = K.length:=⟨_,rfl⟩
 rw [← hnr,← hnk] at hEND hCO ⊢
 dsimp only [Tr.d,Tr.l]
 rw [← hn,nodeV,← hN]
 rw [← hLA] at hLOST
 have HCO:=Lib.hid hCO
 have HLOST:=Lib.hid hLOST
 have HEND:=Lib.hid hEND
 have HK0:=Lib.hid hk0
 have HLS:=Lib.hid hLs
 have HLA:=Lib.hid hLA
 have HW:=Lib.hid hW
 have HG:=Lib.hid hg
 have HICL:=Lib.hid (show ∀ c : Cn,(Tryz.prog.info? 29).map (·.size) = some c.cells.length from fun c => infCnr _ _ _ _ _ _)
 have HICA:=Lib.hid (show ∀ c : Cn,(Tryz.prog.info? 29).map (·.size) = some c.cells.toArray.size from fun c => infCnr _ _ _ _ _ _)
 have H1D:=Lib.hid h1d
 have H2D:=Lib.hid h2d
 have H0D:=Lib.hid h0d
 clear ih hR hK hd hs hB hsz hRl hKl hRo hKo hdn hrt hszl hll hWY hg hn hCO hLOST hEND hN hLA hW hk0 hLs h1d h2d h0d hRT hnr hnk
 obtain ⟨k,hk⟩ : ∃ k,k = d.kind:=⟨_,rfl⟩
 rw [← hk] at dk
 have HKD:=Lib.hid hk
 clear hk
 go_enter Tryz.func29,Tryz.ntmps29
 change Code.wp Tryz.prog goneR _ _ _
 rw [← e12]
 clear e12
 conv => arg 2; whnf; repeat (arg 2; whnf)
 go_upto_region 2 with (first | (refine wpList_nodeVar rfl rfl (w.heap.size + 1) (World.size_alloc _ _) ?_) | (refine wpList_nodeVar rfl rfl (w.heap.size + 2) (by rw [World.size_alloc,World.size_alloc]) ?_) | (refine wpList_buildSome rfl 34 _ rfl LA ?_ ?_; focus (rw [HLA.out]; kernel_rfl)) | (refine wpList_store_row rfl 34 _ _ rfl (w.heap.size + 2) LA rfl rfl 34 (nodeA zD none 0 0) (by have:=heap_alloc_new ((w.alloc (.cells N 34)).alloc (.cells (nodeA zD none 0 0) 34)) (.cells (nodeA zD none 0 0) 34); rw [World.size_alloc,World.size_alloc] at this; exact this) (infS HLS.out.1) HLS.out.1.symm HLS.out.2 ?_) | fail)
 have hWr:=HW.out
 change Code.wp _ _ _ _ ((((w.alloc (.cells N 34)).alloc (.cells (nodeA zD none 0 0) 34)).alloc (.cells (nodeA zD none 0 0) 34)).setRow (w.heap.size + 2) LA)
 rw [← hWr,← HG.out]
 clear hWr
 by_cases q1 : k = 1
 · subst q1
   have HGD:=Lib.hid (H1D.out (Or.inl HKD.out.symm))
   clear H1D H2D H0D
   have hcr : W.rangeAt g 8 (d).a.cells:=node_aR HK0.out.1
   have HCR:=Lib.hid hcr
   have HCC:=Lib.hid (HCO.out W (d).a HK0.out.2.2.2)
   clear hcr
   go_upto_region 4 with (first | (refine wpList_mid rfl 29 _ rfl g 8 rfl (d).a.cells _ HCR.out undCnr rfl (HICL.out _) ?_) | (go_at_call 49; refine HCC.out.mono ?_; rintro e w2 ⟨cn',ok,rfl,hok,hb2⟩; have HB2:=Lib.hid hb2; have HOK:=Lib.hid hok; clear hb2 hok) | (refine wpList_store_row rfl 29 _ _ rfl w2.heap.size cn'.cells.toArray rfl rfl 29 #[.int .i64 0,.int .i64 0,.int .i64 0,.int .i64 0,.bool false,.bool false] (heap_alloc_new _ _) (HICA.out _) rfl (by kernel_rfl) ?_) | fail)
   obtain ⟨gx,hgx⟩ : ∃ x,x = w2.heap.size:=⟨_,rfl⟩
   obtain ⟨w3,hw3⟩ : ∃ x,x = (w2.alloc (.cells #[.int .i64 0,.int .i64 0,.int .i64 0,.int .i64 0,.bool false,.bool false] 29)).setRow w2.heap.size cn'.cells.toArray:=⟨_,rfl⟩
   have hb3 : Below w2.heap.size w2 w3:=by rw [hw3]; exact below_row ((Below.refl _ w2).alloc (Nat.le_refl _) _) (Nat.le_refl _) _
   have hk3 : w3.heap[gx]? = some (.cells cn'.cells.toArray 29):=by rw [hw3,hgx]; exact setRow_heap _ _ _ _ _ _ (heap_alloc_new _ _)
   have hbw : Below W.heap.size W w3:=HB2.out.trans (hb3.mono HB2.out.size)
   have HK3:=Lib.hid (show w3.heap[g]? = some (.cells (nodeA (d) A n c) 34) ∧ w3.heap[g + 1]? = some (.cells (nodeA zD none 0 0) 34) ∧ w3.heap[g + 2]? = some (.cells LA 34) ∧ Below g w w3 from by
     have h0:=HK0.out
     exact ⟨(hbw.block _ (Array.getElem?_eq_some_iff.1 h0.1).1).trans h0.1,(hbw.block _ (Array.getElem?_eq_some_iff.1 h0.2.1).1).trans h0.2.1,(hbw.block _ (Array.getElem?_eq_some_iff.1 h0.2.2.1).1).trans h0.2.2.1,h0.2.2.2.trans (hbw.mono (by have:=(Array.getElem?_eq_some_iff.1 h0.1).1; omega))⟩)
   have HX3:=Lib.hid hk3
   change Code.wp _ _ _ _ ((w2.alloc (.cells #[.int .i64 0,.int .i64 0,.int .i64 0,.int .i64 0,.bool false,.bool false] 29)).setRow w2.heap.size cn'.cells.toArray)
   rw [← hw3,← hgx]
   clear hw3 hb3 hk3 hbw hgx
   cases ok with
   | false =>
     have HNO:=Lib.hid (HOK.out)
     go_wp2_with (first | (refine wpList_row rfl 34 _ rfl (g + 2) rfl 34 LA (0,0) _ HK3.out.2.2.1 undN rfl (infS HLS.out.1) ?_) | (refine wpList_store_row rfl 34 _ _ rfl (g + 1) LA rfl rfl 34 (nodeA zD none 0 0) HK3.out.2.1 (infS HLS.out.1) HLS.out.1.symm HLS.out.2 ?_) | fail)
     refine bodyPost_ret (v:=.agg LA) (results_cell_row rfl _ _ (g + 1) 34 LA (0,0) _ rfl (setRow_heap _ _ _ _ _ _ HK3.out.2.1) undN rfl (infS HLS.out.1)) rfl ?_
     exact HLOST.out _ (by rw [HGD.out,show goneC WY d.a = none from HNO.out] <;> rfl) (below_row HK3.out.2.2.2 (by omega) _)
   | true =>
   have hs4 : (w3.setCells g 8 cn'.cells).heap[g]? = some (.cells (nodeA { d with a:=cn' } A n c) 34):=setA_node HK3.out.1
   have hz4 : ∀ k,k ≠ g → (w3.setCells g 8 cn'.cells).heap[k]? = w3.heap[k]?:=fun k hk => heap_setCells_far g hk _ _ _
   have hb4 : Below g w (w3.setCells g 8 cn'.cells):=HK3.out.2.2.2.trans (below_setCells2 (Nat.le_refl _) _ _ _)
   have hth : w3.there g 8 cn'.cells.toArray.size:=there_node HK3.out.1 (by decide)
   obtain ⟨w3s,hw3s⟩ : ∃ x,x = w3.setCells g 8 cn'.cells:=⟨_,rfl⟩
   rw [← hw3s] at hs4 hz4 hb4
   have Hw3:=Lib.hid (show w3s.heap[g]? = some (.cells (nodeA { d with a:=cn' } A n c) 34) ∧ w3s.heap[g + 1]? = some (.cells (nodeA zD none 0 0) 34) ∧ w3s.heap[g + 2]? = some (.cells LA 34) ∧ Below g w w3s from ⟨hs4,(hz4 _ (by omega)).trans HK3.out.2.1,(hz4 _ (by omega)).trans HK3.out.2.2.1,hb4⟩)
   have HTH:=Lib.hid hth
   have HWS:=Lib.hid (show w3.setCells g 8 cn'.cells.toArray.toList = w3s from hw3s.symm)
   clear hs4 hz4 hb4 hth hw3s
   go_upto_region 7 with (first | (refine wpList_row rfl 29 _ rfl gx rfl 29 cn'.cells.toArray (0,0) _ HX3.out undCnr rfl (HICA.out _) ?_) | (refine wpList_store_mid rfl 29 _ _ rfl g 8 cn'.cells.toArray rfl rfl HTH.out (HICA.out _) (corn_one _) ?_; rw [HWS.out]) | fail)
   have HE3:=Lib.hid (show goneC WY d.a = some cn' from HOK.out)
   have dk3 : w3s.cell? ⟨g,0,none⟩ = some (.int .i64 1):=(cell_of_row _ _ 0 _ _ _ Hw3.out.1).trans (by show some (Value.int .i64 d.kind) = _; rw [← HKD.out])
   go_wp2_with (fail)
   exact HEND.out ({ d with a:=cn' }) (by rw [HGD.out,HE3.out] <;> rfl) _ _ _ _ _ _ _ _ _ _ _ _ _ _ _ _ _ _ _ _ _ _ _ _ _ _ _ _ _ _ _ _ _ _ _ _ _ _ _ _ _ _ _ _ _ _ _ _ _ _ _ _ _ _ _ _ _ _ _ _ _ _ _ _ _ _ _ _ _ _ _ _ _ _ _ _ _ _ _ _ _ _ _ _ _ _ _ _ _ Hw3.out.1 Hw3.out.2.1 Hw3.out.2.2.2
 by_cases q3 : k = 3
 · subst q3
   have HGD:=Lib.hid (H1D.out (Or.inr HKD.out.symm))
   clear H1D H2D H0D
   have hcr : W.rangeAt g 8 (d).a.cells:=node_aR HK0.out.1
   have HCR:=Lib.hid hcr
   have HCC:=Lib.hid (HCO.out W (d).a HK0.out.2.2.2)
   clear hcr
   go_upto_region 4 with (first | (refine wpList_mid rfl 29 _ rfl g 8 rfl (d).a.cells _ HCR.out undCnr rfl (HICL.out _) ?_) | (go_at_call 49; refine HCC.out.mono ?_; rintro e w2 ⟨cn',ok,rfl,hok,hb2⟩; have HB2:=Lib.hid hb2; have HOK:=Lib.hid hok; clear hb2 hok) | (refine wpList_store_row rfl 29 _ _ rfl w2.heap.size cn'.cells.toArray rfl rfl 29 #[.int .i64 0,.int .i64 0,.int .i64 0,.int .i64 0,.bool false,.bool false] (heap_alloc_new _ _) (HICA.out _) rfl (by kernel_rfl) ?_) | fail)
   obtain ⟨gx,hgx⟩ : ∃ x,x = w2.heap.size:=⟨_,rfl⟩
   obtain ⟨w3,hw3⟩ : ∃ x,x = (w2.alloc (.cells #[.int .i64 0,.int .i64 0,.int .i64 0,.int .i64 0,.bool false,.bool false] 29)).setRow w2.heap.size cn'.cells.toArray:=⟨_,rfl⟩
   have hb3 : Below w2.heap.size w2 w3:=by rw [hw3]; exact below_row ((Below.refl _ w2).alloc (Nat.le_refl _) _) (Nat.le_refl _) _
   have hk3 : w3.heap[gx]? = some (.cells cn'.cells.toArray 29):=by rw [hw3,hgx]; exact setRow_heap _ _ _ _ _ _ (heap_alloc_new _ _)
   have hbw : Below W.heap.size W w3:=HB2.out.trans (hb3.mono HB2.out.size)
   have HK3:=Lib.hid (show w3.heap[g]? = some (.cells (nodeA (d) A n c) 34) ∧ w3.heap[g + 1]? = some (.cells (nodeA zD none 0 0) 34) ∧ w3.heap[g + 2]? = some (.cells LA 34) ∧ Below g w w3 from by
     have h0:=HK0.out
     exact ⟨(hbw.block _ (Array.getElem?_eq_some_iff.1 h0.1).1).trans h0.1,(hbw.block _ (Array.getElem?_eq_some_iff.1 h0.2.1).1).trans h0.2.1,(hbw.block _ (Array.getElem?_eq_some_iff.1 h0.2.2.1).1).trans h0.2.2.1,h0.2.2.2.trans (hbw.mono (by have:=(Array.getElem?_eq_some_iff.1 h0.1).1; omega))⟩)
   have HX3:=Lib.hid hk3
   change Code.wp _ _ _ _ ((w2.alloc (.cells #[.int .i64 0,.int .i64 0,.int .i64 0,.int .i64 0,.bool false,.bool false] 29)).setRow w2.heap.size cn'.cells.toArray)
   rw [← hw3,← hgx]
   clear hw3 hb3 hk3 hbw hgx
   cases ok with
   | false =>
     have HNO:=Lib.hid (HOK.out)
     go_wp2_with (first | (refine wpList_row rfl 34 _ rfl (g + 2) rfl 34 LA (0,0) _ HK3.out.2.2.1 undN rfl (infS HLS.out.1) ?_) | (refine wpList_store_row rfl 34 _ _ rfl (g + 1) LA rfl rfl 34 (nodeA zD none 0 0) HK3.out.2.1 (infS HLS.out.1) HLS.out.1.symm HLS.out.2 ?_) | fail)
     refine bodyPost_ret (v:=.agg LA) (results_cell_row rfl _ _ (g + 1) 34 LA (0,0) _ rfl (setRow_heap _ _ _ _ _ _ HK3.out.2.1) undN rfl (infS HLS.out.1)) rfl ?_
     exact HLOST.out _ (by rw [HGD.out,show goneC WY d.a = none from HNO.out] <;> rfl) (below_row HK3.out.2.2.2 (by omega) _)
   | true =>
   have hs4 : (w3.setCells g 8 cn'.cells).heap[g]? = some (.cells (nodeA { d with a:=cn' } A n c) 34):=setA_node HK3.out.1
   have hz4 : ∀ k,k ≠ g → (w3.setCells g 8 cn'.cells).heap[k]? = w3.heap[k]?:=fun k hk => heap_setCells_far g hk _ _ _
   have hb4 : Below g w (w3.setCells g 8 cn'.cells):=HK3.out.2.2.2.trans (below_setCells2 (Nat.le_refl _) _ _ _)
   have hth : w3.there g 8 cn'.cells.toArray.size:=there_node HK3.out.1 (by decide)
   obtain ⟨w3s,hw3s⟩ : ∃ x,x = w3.setCells g 8 cn'.cells:=⟨_,rfl⟩
   rw [← hw3s] at hs4 hz4 hb4
   have Hw3:=Lib.hid (show w3s.heap[g]? = some (.cells (nodeA { d with a:=cn' } A n c) 34) ∧ w3s.heap[g + 1]? = some (.cells (nodeA zD none 0 0) 34) ∧ w3s.heap[g + 2]? = some (.cells LA 34) ∧ Below g w w3s from ⟨hs4,(hz4 _ (by omega)).trans HK3.out.2.1,(hz4 _ (by omega)).trans HK3.out.2.2.1,hb4⟩)
   have HTH:=Lib.hid hth
   have HWS:=Lib.hid (show w3.setCells g 8 cn'.cells.toArray.toList = w3s from hw3s.symm)
   clear hs4 hz4 hb4 hth hw3s
   go_upto_region 7 with (first | (refine wpList_row rfl 29 _ rfl gx rfl 29 cn'.cells.toArray (0,0) _ HX3.out undCnr rfl (HICA.out _) ?_) | (refine wpList_store_mid rfl 29 _ _ rfl g 8 cn'.cells.toArray rfl rfl HTH.out (HICA.out _) (corn_one _) ?_; rw [HWS.out]) | fail)
   have HE3:=Lib.hid (show goneC WY d.a = some cn' from HOK.out)
   have dk3 : w3s.cell? ⟨g,0,none⟩ = some (.int .i64 3):=(cell_of_row _ _ 0 _ _ _ Hw3.out.1).trans (by show some (Value.int .i64 d.kind) = _; rw [← HKD.out])
   go_wp2_with (fail)
   exact HEND.out ({ d with a:=cn' }) (by rw [HGD.out,HE3.out] <;> rfl) _ _ _ _ _ _ _ _ _ _ _ _ _ _ _ _ _ _ _ _ _ _ _ _ _ _ _ _ _ _ _ _ _ _ _ _ _ _ _ _ _ _ _ _ _ _ _ _ _ _ _ _ _ _ _ _ _ _ _ _ _ _ _ _ _ _ _ _ _ _ _ _ _ _ _ _ _ _ _ _ _ _ _ _ _ _ _ _ _ Hw3.out.1 Hw3.out.2.1 Hw3.out.2.2.2
 by_cases q2 : k = 2
 · subst q2
   have HGD:=Lib.hid (H2D.out HKD.out.symm)
   clear H1D H2D H0D
   have hcr : W.rangeAt g 8 (d).a.cells:=node_aR HK0.out.1
   have HCR:=Lib.hid hcr
   have HCC:=Lib.hid (HCO.out W (d).a HK0.out.2.2.2)
   clear hcr
   go_upto_region 4 with (first | (refine wpList_mid rfl 29 _ rfl g 8 rfl (d).a.cells _ HCR.out undCnr rfl (HICL.out _) ?_) | (go_at_call 49; refine HCC.out.mono ?_; rintro e w2 ⟨cn',ok,rfl,hok,hb2⟩; have HB2:=Lib.hid hb2; have HOK:=Lib.hid hok; clear hb2 hok) | (refine wpList_store_row rfl 29 _ _ rfl w2.heap.size cn'.cells.toArray rfl rfl 29 #[.int .i64 0,.int .i64 0,.int .i64 0,.int .i64 0,.bool false,.bool false] (heap_alloc_new _ _) (HICA.out _) rfl (by kernel_rfl) ?_) | fail)
   obtain ⟨gx,hgx⟩ : ∃ x,x = w2.heap.size:=⟨_,rfl⟩
   obtain ⟨w3,hw3⟩ : ∃ x,x = (w2.alloc (.cells #[.int .i64 0,.int .i64 0,.int .i64 0,.int .i64 0,.bool false,.bool false] 29)).setRow w2.heap.size cn'.cells.toArray:=⟨_,rfl⟩
   have hb3 : Below w2.heap.size w2 w3:=by rw [hw3]; exact below_row ((Below.refl _ w2).alloc (Nat.le_refl _) _) (Nat.le_refl _) _
   have hk3 : w3.heap[gx]? = some (.cells cn'.cells.toArray 29):=by rw [hw3,hgx]; exact setRow_heap _ _ _ _ _ _ (heap_alloc_new _ _)
   have hbw : Below W.heap.size W w3:=HB2.out.trans (hb3.mono HB2.out.size)
   have HK3:=Lib.hid (show w3.heap[g]? = some (.cells (nodeA (d) A n c) 34) ∧ w3.heap[g + 1]? = some (.cells (nodeA zD none 0 0) 34) ∧ w3.heap[g + 2]? = some (.cells LA 34) ∧ Below g w w3 from by
     have h0:=HK0.out
     exact ⟨(hbw.block _ (Array.getElem?_eq_some_iff.1 h0.1).1).trans h0.1,(hbw.block _ (Array.getElem?_eq_some_iff.1 h0.2.1).1).trans h0.2.1,(hbw.block _ (Array.getElem?_eq_some_iff.1 h0.2.2.1).1).trans h0.2.2.1,h0.2.2.2.trans (hbw.mono (by have:=(Array.getElem?_eq_some_iff.1 h0.1).1; omega))⟩)
   have HX3:=Lib.hid hk3
   change Code.wp _ _ _ _ ((w2.alloc (.cells #[.int .i64 0,.int .i64 0,.int .i64 0,.int .i64 0,.bool false,.bool false] 29)).setRow w2.heap.size cn'.cells.toArray)
   rw [← hw3,← hgx]
   clear hw3 hb3 hk3 hbw hgx
   cases ok with
   | false =>
     have HNO:=Lib.hid (HOK.out)
     go_wp2_with (first | (refine wpList_row rfl 34 _ rfl (g + 2) rfl 34 LA (0,0) _ HK3.out.2.2.1 undN rfl (infS HLS.out.1) ?_) | (refine wpList_store_row rfl 34 _ _ rfl (g + 1) LA rfl rfl 34 (nodeA zD none 0 0) HK3.out.2.1 (infS HLS.out.1) HLS.out.1.symm HLS.out.2 ?_) | fail)
     refine bodyPost_ret (v:=.agg LA) (results_cell_row rfl _ _ (g + 1) 34 LA (0,0) _ rfl (setRow_heap _ _ _ _ _ _ HK3.out.2.1) undN rfl (infS HLS.out.1)) rfl ?_
     exact HLOST.out _ (by rw [HGD.out,show goneC WY d.a = none from HNO.out] <;> rfl) (below_row HK3.out.2.2.2 (by omega) _)
   | true =>
   have hs4 : (w3.setCells g 8 cn'.cells).heap[g]? = some (.cells (nodeA { d with a:=cn' } A n c) 34):=setA_node HK3.out.1
   have hz4 : ∀ k,k ≠ g → (w3.setCells g 8 cn'.cells).heap[k]? = w3.heap[k]?:=fun k hk => heap_setCells_far g hk _ _ _
   have hb4 : Below g w (w3.setCells g 8 cn'.cells):=HK3.out.2.2.2.trans (below_setCells2 (Nat.le_refl _) _ _ _)
   have hth : w3.there g 8 cn'.cells.toArray.size:=there_node HK3.out.1 (by decide)
   obtain ⟨w3s,hw3s⟩ : ∃ x,x = w3.setCells g 8 cn'.cells:=⟨_,rfl⟩
   rw [← hw3s] at hs4 hz4 hb4
   have Hw3:=Lib.hid (show w3s.heap[g]? = some (.cells (nodeA { d with a:=cn' } A n c) 34) ∧ w3s.heap[g + 1]? = some (.cells (nodeA zD none 0 0) 34) ∧ w3s.heap[g + 2]? = some (.cells LA 34) ∧ Below g w w3s from ⟨hs4,(hz4 _ (by omega)).trans HK3.out.2.1,(hz4 _ (by omega)).trans HK3.out.2.2.1,hb4⟩)
   have HTH:=Lib.hid hth
   have HWS:=Lib.hid (show w3.setCells g 8 cn'.cells.toArray.toList = w3s from hw3s.symm)
   clear hs4 hz4 hb4 hth hw3s
   go_upto_region 7 with (first | (refine wpList_row rfl 29 _ rfl gx rfl 29 cn'.cells.toArray (0,0) _ HX3.out undCnr rfl (HICA.out _) ?_) | (refine wpList_store_mid rfl 29 _ _ rfl g 8 cn'.cells.toArray rfl rfl HTH.out (HICA.out _) (corn_one _) ?_; rw [HWS.out]) | fail)
   have HE3:=Lib.hid (show goneC WY d.a = some cn' from HOK.out)
   have dk3 : w3s.cell? ⟨g,0,none⟩ = some (.int .i64 2):=(cell_of_row _ _ 0 _ _ _ Hw3.out.1).trans (by show some (Value.int .i64 d.kind) = _; rw [← HKD.out])
   obtain ⟨ca,hca⟩ : ∃ x,x = cn':=⟨_,rfl⟩
   rw [← hca] at HE3 Hw3
   clear hca HB2 HOK HX3 HK3 HTH HWS HCR HCC
   go_upto_region 8 with (fail)
   clear dk3
   have hcr : w3s.rangeAt g 14 ({ d with a:=ca }).b.cells:=node_bR Hw3.out.1
   have HCR:=Lib.hid hcr
   have HCC:=Lib.hid (HCO.out w3s ({ d with a:=ca }).b Hw3.out.2.2.2)
   clear hcr
   go_upto_region 9 with (first | (refine wpList_mid rfl 29 _ rfl g 14 rfl ({ d with a:=ca }).b.cells _ HCR.out undCnr rfl (HICL.out _) ?_) | (go_at_call 49; refine HCC.out.mono ?_; rintro e w2 ⟨cn',ok,rfl,hok,hb2⟩; have HB2:=Lib.hid hb2; have HOK:=Lib.hid hok; clear hb2 hok) | (refine wpList_store_row rfl 29 _ _ rfl w2.heap.size cn'.cells.toArray rfl rfl 29 #[.int .i64 0,.int .i64 0,.int .i64 0,.int .i64 0,.bool false,.bool false] (heap_alloc_new _ _) (HICA.out _) rfl (by kernel_rfl) ?_) | fail)
   obtain ⟨gx,hgx⟩ : ∃ x,x = w2.heap.size:=⟨_,rfl⟩
   obtain ⟨w4,hw4⟩ : ∃ x,x = (w2.alloc (.cells #[.int .i64 0,.int .i64 0,.int .i64 0,.int .i64 0,.bool false,.bool false] 29)).setRow w2.heap.size cn'.cells.toArray:=⟨_,rfl⟩
   have hb3 : Below w2.heap.size w2 w4:=by rw [hw4]; exact below_row ((Below.refl _ w2).alloc (Nat.le_refl _) _) (Nat.le_refl _) _
   have hk3 : w4.heap[gx]? = some (.cells cn'.cells.toArray 29):=by rw [hw4,hgx]; exact setRow_heap _ _ _ _ _ _ (heap_alloc_new _ _)
   have hbw : Below w3s.heap.size w3s w4:=HB2.out.trans (hb3.mono HB2.out.size)
   have HK3:=Lib.hid (show w4.heap[g]? = some (.cells (nodeA ({ d with a:=ca }) A n c) 34) ∧ w4.heap[g + 1]? = some (.cells (nodeA zD none 0 0) 34) ∧ w4.heap[g + 2]? = some (.cells LA 34) ∧ Below g w w4 from by
     have h0:=Hw3.out
     exact ⟨(hbw.block _ (Array.getElem?_eq_some_iff.1 h0.1).1).trans h0.1,(hbw.block _ (Array.getElem?_eq_some_iff.1 h0.2.1).1).trans h0.2.1,(hbw.block _ (Array.getElem?_eq_some_iff.1 h0.2.2.1).1).trans h0.2.2.1,h0.2.2.2.trans (hbw.mono (by have:=(Array.getElem?_eq_some_iff.1 h0.1).1; omega))⟩)
   have HX3:=Lib.hid hk3
   change Code.wp _ _ _ _ ((w2.alloc (.cells #[.int .i64 0,.int .i64 0,.int .i64 0,.int .i64 0,.bool false,.bool false] 29)).setRow w2.heap.size cn'.cells.toArray)
   rw [← hw4,← hgx]
   clear hw4 hb3 hk3 hbw hgx
   cases ok with
   | false =>
     have HNO:=Lib.hid (HOK.out)
     go_wp2_with (first | (refine wpList_row rfl 34 _ rfl (g + 2) rfl 34 LA (0,0) _ HK3.out.2.2.1 undN rfl (infS HLS.out.1) ?_) | (refine wpList_store_row rfl 34 _ _ rfl (g + 1) LA rfl rfl 34 (nodeA zD none 0 0) HK3.out.2.1 (infS HLS.out.1) HLS.out.1.symm HLS.out.2 ?_) | fail)
     refine bodyPost_ret (v:=.agg LA) (results_cell_row rfl _ _ (g + 1) 34 LA (0,0) _ rfl (setRow_heap _ _ _ _ _ _ HK3.out.2.1) undN rfl (infS HLS.out.1)) rfl ?_
     exact HLOST.out _ (by rw [HGD.out,HE3.out,show goneC WY d.b = none from HNO.out] <;> rfl) (below_row HK3.out.2.2.2 (by omega) _)
   | true =>
   have hs4 : (w4.setCells g 14 cn'.cells).heap[g]? = some (.cells (nodeA { { d with a:=ca } with b:=cn' } A n c) 34):=setB_node HK3.out.1
   have hz4 : ∀ k,k ≠ g → (w4.setCells g 14 cn'.cells).heap[k]? = w4.heap[k]?:=fun k hk => heap_setCells_far g hk _ _ _
   have hb4 : Below g w (w4.setCells g 14 cn'.cells):=HK3.out.2.2.2.trans (below_setCells2 (Nat.le_refl _) _ _ _)
   have hth : w4.there g 14 cn'.cells.toArray.size:=there_node HK3.out.1 (by decide)
   obtain ⟨w4s,hw4s⟩ : ∃ x,x = w4.setCells g 14 cn'.cells:=⟨_,rfl⟩
   rw [← hw4s] at hs4 hz4 hb4
   have Hw4:=Lib.hid (show w4s.heap[g]? = some (.cells (nodeA { { d with a:=ca } with b:=cn' } A n c) 34) ∧ w4s.heap[g + 1]? = some (.cells (nodeA zD none 0 0) 34) ∧ w4s.heap[g + 2]? = some (.cells LA 34) ∧ Below g w w4s from ⟨hs4,(hz4 _ (by omega)).trans HK3.out.2.1,(hz4 _ (by omega)).trans HK3.out.2.2.1,hb4⟩)
   have HTH:=Lib.hid hth
   have HWS:=Lib.hid (show w4.setCells g 14 cn'.cells.toArray.toList = w4s from hw4s.symm)
   clear hs4 hz4 hb4 hth hw4s
   go_wp2_with (first | (refine wpList_row rfl 29 _ rfl gx rfl 29 cn'.cells.toArray (0,0) _ HX3.out undCnr rfl (HICA.out _) ?_) | (refine wpList_store_mid rfl 29 _ _ rfl g 14 cn'.cells.toArray rfl rfl HTH.out (HICA.out _) (corn_one _) ?_; rw [HWS.out]) | fail)
   have HE4:=Lib.hid (show goneC WY d.b = some cn' from HOK.out)
   exact HEND.out ({ d with a:=ca,b:=cn' }) (by rw [HGD.out,HE3.out,show goneC WY d.b = some cn' from HE4.out] <;> rfl) _ _ _ _ _ _ _ _ _ _ _ _ _ _ _ _ _ _ _ _ _ _ _ _ _ _ _ _ _ _ _ _ _ _ _ _ _ _ _ _ _ _ _ _ _ _ _ _ _ _ _ _ _ _ _ _ _ _ _ _ _ _ _ _ _ _ _ _ _ _ _ _ _ _ _ _ _ _ _ _ _ _ _ _ _ _ _ _ _ Hw4.out.1 Hw4.out.2.1 Hw4.out.2.2.2
 have r1 : (k == 1) = false:=by simpa using q1
 have r3 : (k == 3) = false:=by simpa using q3
 have r2 : (k == 2) = false:=by simpa using q2
 have HD0:=Lib.hid (H0D.out (HKD.out ▸ q1) (HKD.out ▸ q3) (HKD.out ▸ q2))
 clear q1 q3 q2
 go_wp2_with (fail)
 exact HEND.out (d) (HD0.out) _ _ _ _ _ _ _ _ _ _ _ _ _ _ _ _ _ _ _ _ _ _ _ _ _ _ _ _ _ _ _ _ _ _ _ _ _ _ _ _ _ _ _ _ _ _ _ _ _ _ _ _ _ _ _ _ _ _ _ _ _ _ _ _ _ _ _ _ _ _ _ _ _ _ _ _ _ _ _ _ _ _ _ _ _ _ _ _ _ HK0.out.1 HK0.out.2.1 HK0.out.2.2.2
end Go.Proofs.YtbkmnboicihchaaGreat
