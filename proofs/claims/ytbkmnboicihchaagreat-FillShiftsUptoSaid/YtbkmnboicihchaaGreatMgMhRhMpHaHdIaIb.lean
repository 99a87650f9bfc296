/- Trees in memory at good addresses; the nodes that tree.Map has still to come to. A step of tree.Map: a node is replaced. Rows that are read and stored in a region that draws its order,where just one operation may come next. No program in sight. tree.Map. Fill: the plain law of a tree that goes a way. Axes: ids,each live or dead; the plain facts. Ids as keys of maps. axis.New: an axis of ids,each once,all live. -/
import Derived.Test.YtbkmnboicihchaaGreatNdClPyPmPnPfNwCy
import Derived.Lib.LazyBuf
import Derived.Deep.Upon
import Derived.WalkSmall
import Derived.Deep.RegionHeld3
import Derived.Deep.MidRow
import Derived.Deep.Cut
import Derived.Test.YtbkmnboicihchaaGreatTr
import Derived.Maps.OwnSet
import Derived.Maps.Keyed
import Derived.DeepKeys4
import Derived.Maps.OwnOps
namespace Go.Proofs.YtbkmnboicihchaaGreat
open Go.RowKit Go.Shelf
mutual
def NodeG (w : World) (G : Nat → Nat → Prop) (b o : Nat) : Tr → Prop
 | .mk d l => G b o ∧ d.ok ∧ ∃ A c,NodeCells w b o d A l.length c ∧ l.length ≤ c ∧ c ≤ 9223372036854775807 ∧ (l = [] ∨ ∃ b' o',A = some ⟨b',o',none⟩ ∧ KidsG w G b' o' l)
def KidsG (w : World) (G : Nat → Nat → Prop) (b o : Nat) : List Tr → Prop
 | [] => True
 | t :: ts => NodeG w G b o t ∧ KidsG w G b (o + 22) ts
end
def SlG (w : World) (G : Nat → Nat → Prop) (A : Option Addr) (c : Nat) (l : List Tr) : Prop:=l.length ≤ c ∧ c ≤ 9223372036854775807 ∧ (l = [] ∨ ∃ b' o',A = some ⟨b',o',none⟩ ∧ KidsG w G b' o' l)
theorem KidsG.get {w : World} {G : Nat → Nat → Prop} {b : Nat} : ∀ {l : List Tr} {o : Nat},KidsG w G b o l → ∀ i (h : i < l.length),NodeG w G b (o + i * 22) l[i]
 | [],_,_,i,h => by simp at h
 | t :: ts,o,hk,0,_ => by simp only [KidsG] at hk; simpa using hk.1
 | t :: ts,o,hk,i + 1,h => by
   simp only [KidsG] at hk
   have:=KidsG.get hk.2 i (by simpa using h)
   simp only [List.getElem_cons_succ]
   rw [show o + (i + 1) * 22 = o + 22 + i * 22 by omega]
   exact this
theorem KidsG.of {w : World} {G : Nat → Nat → Prop} {b : Nat} : ∀ {l : List Tr} {o : Nat},(∀ i (h : i < l.length),NodeG w G b (o + i * 22) l[i]) → KidsG w G b o l
 | [],_,_ => by simp [KidsG]
 | t :: ts,o,h => by
   simp only [KidsG]
   refine ⟨by have h0:=h 0 (by simp); rw [Nat.zero_mul,Nat.add_zero] at h0; exact h0,KidsG.of (fun i hi => ?_)⟩
   have:=h (i + 1) (by simpa using hi)
   simp only [List.getElem_cons_succ] at this
   rw [show o + 22 + i * 22 = o + (i + 1) * 22 by omega]
   exact this
theorem NodeG.keep {w w' : World} {G G' : Nat → Nat → Prop} (hG : ∀ b o,G b o → G' b o) (hk : ∀ b o,G b o → ∀ j,j < 22 → w'.cell? ⟨b,o + j,none⟩ = w.cell? ⟨b,o + j,none⟩) (t : Tr) : ∀ b o,NodeG w G b o t → NodeG w' G' b o t:=by
 induction t using Tr.ind with
 | _ d l ih =>
   intro b o h
   simp only [NodeG] at h ⊢
   obtain ⟨hb,hd,A,c,hc,h1,h2,h3⟩:=h
   refine ⟨hG b o hb,hd,A,c,fun j hj => (hk b o hb j hj).trans (hc j hj),h1,h2,?_⟩
   rcases h3 with rfl | ⟨b',o',hA,hkids⟩
   · exact .inl rfl
   · exact .inr ⟨b',o',hA,KidsG.of (fun i hi => ih _ (List.getElem_mem hi) _ _ (hkids.get i hi))⟩
theorem SlG.keep {w w' : World} {G G' : Nat → Nat → Prop} (hG : ∀ b o,G b o → G' b o) (hk : ∀ b o,G b o → ∀ j,j < 22 → w'.cell? ⟨b,o + j,none⟩ = w.cell? ⟨b,o + j,none⟩) {A : Option Addr} {c : Nat} {l : List Tr} (h : SlG w G A c l) : SlG w' G' A c l:=by
 obtain ⟨h1,h2,h3⟩:=h
 refine ⟨h1,h2,?_⟩
 rcases h3 with rfl | ⟨b',o',hA,hkids⟩
 · exact .inl rfl
 · exact .inr ⟨b',o',hA,KidsG.of (fun i hi => NodeG.keep hG hk _ _ _ (hkids.get i hi))⟩
theorem NodeG.at_ {w : World} {G : Nat → Nat → Prop} {B : Nat} (hG : ∀ b o,G b o → b < B) (t : Tr) : ∀ b o,NodeG w G b o t → NodeAt w B b o t:=by
 induction t using Tr.ind with
 | _ d l ih =>
   intro b o h
   simp only [NodeG] at h
   simp only [NodeAt]
   obtain ⟨hb,hd,A,c,hc,h1,h2,h3⟩:=h
   refine ⟨hG b o hb,hd,A,c,hc,h1,h2,?_⟩
   rcases h3 with rfl | ⟨b',o',hA,hkids⟩
   · exact .inl rfl
   · exact .inr ⟨b',o',hA,KidsAt.of (fun i hi => ih _ (List.getElem_mem hi) _ _ (hkids.get i hi))⟩
theorem SlG.at_ {w : World} {G : Nat → Nat → Prop} {B : Nat} (hG : ∀ b o,G b o → b < B) {A : Option Addr} {c : Nat} {l : List Tr} (h : SlG w G A c l) : SlAt w B A c l:=by
 obtain ⟨h1,h2,h3⟩:=h
 refine ⟨h1,h2,?_⟩
 rcases h3 with rfl | ⟨b',o',hA,hkids⟩
 · exact .inl rfl
 · exact .inr ⟨b',o',hA,KidsAt.of (fun i hi => NodeG.at_ hG _ _ _ (hkids.get i hi))⟩
theorem NodeG.open_ {w : World} {G : Nat → Nat → Prop} {b o : Nat} {t : Tr} (h : NodeG w G b o t) : G b o ∧ t.d.ok ∧ ∃ A c,NodeCells w b o t.d A t.l.length c ∧ SlG w G A c t.l:=by
 obtain ⟨d,l⟩:=t
 simp only [NodeG] at h
 obtain ⟨hb,hd,A,c,hc,h1,h2,h3⟩:=h
 exact ⟨hb,hd,A,c,hc,h1,h2,h3⟩
theorem NodeG.mk {w : World} {G : Nat → Nat → Prop} {b o : Nat} {t : Tr} (hb : G b o) (hd : t.d.ok) {A : Option Addr} {c : Nat} (hc : NodeCells w b o t.d A t.l.length c) (hs : SlG w G A c t.l) : NodeG w G b o t:=by
 obtain ⟨d,l⟩:=t
 simp only [NodeG]
 exact ⟨hb,hd,A,c,hc,hs.1,hs.2.1,hs.2.2⟩
theorem SlG.get {w : World} {G : Nat → Nat → Prop} {A : Option Addr} {c : Nat} {l : List Tr} (h : SlG w G A c l) (i : Nat) (hi : i < l.length) : ∃ b o,A = some ⟨b,o,none⟩ ∧ NodeG w G b (o + i * 22) l[i]:=by
 rcases h.2.2 with rfl | ⟨b',o',hA,hkids⟩
 · simp at hi
 · exact ⟨b',o',hA,hkids.get i hi⟩
mutual
def mapT (F : Tr → Tr) : Tr → Tr
 | .mk d l => F (.mk d (mapTs F l))
def mapTs (F : Tr → Tr) : List Tr → List Tr
 | [] => []
 | t :: ts => mapT F t :: mapTs F ts
end
theorem mapTs_map (F : Tr → Tr) : ∀ l : List Tr,mapTs F l = l.map (mapT F)
 | [] => by simp [mapTs]
 | t :: ts => by simp [mapTs,mapTs_map F ts]
theorem mapT_mk (F : Tr → Tr) (d : ND) (l : List Tr) : mapT F (.mk d l) = F (.mk d (l.map (mapT F))):=by simp [mapT,mapTs_map]
theorem AT.tr_mk (b o : Nat) (d : ND) (l : List AT) : (AT.mk b o d l).tr = .mk d (l.map AT.tr):=by simp [AT.tr,AT.trs_map]
mutual
def AT.post : AT → List AT
 | .mk b o d l => AT.posts l ++ [.mk b o d l]
def AT.posts : List AT → List AT
 | [] => []
 | t :: ts => t.post ++ AT.posts ts
end
theorem AT.posts_flat : ∀ l : List AT,AT.posts l = l.flatMap AT.post
 | [] => by simp [AT.posts]
 | t :: ts => by simp [AT.posts,AT.posts_flat ts]
theorem AT.post_mk (b o : Nat) (d : ND) (l : List AT) : (AT.mk b o d l).post = l.flatMap AT.post ++ [.mk b o d l]:=by simp [AT.post,AT.posts_flat]
theorem AT.post_eq (x : AT) : x.post = x.l.flatMap AT.post ++ [x]:=by obtain ⟨b,o,d,l⟩:=x; rw [AT.post_mk]; rfl
theorem AT.post_perm (x : AT) : x.post.Perm x.all:=by
 induction x using AT.ind with
 | _ b o d l ih =>
   rw [AT.post_mk,AT.all_mk]
   have h1 : (l.flatMap AT.post).Perm (l.flatMap AT.all):=by
     induction l with
     | nil => exact List.Perm.refl _
     | cons a l ihl =>
       rw [List.flatMap_cons,List.flatMap_cons]
       exact (ih a (by simp)).append (ihl (fun t ht => ih t (by simp [ht])))
   exact (List.perm_append_comm).trans ((List.Perm.cons _ h1))
theorem AT.post_len (x : AT) : x.post.length = x.tr.size:=by
 induction x using AT.ind with
 | _ b o d l ih =>
   rw [AT.post_mk,AT.tr_mk]
   simp only [List.length_append,List.length_cons,List.length_nil,Tr.size]
   congr 1
   induction l with
   | nil => simp [Tr.sizes]
   | cons a l ihl => simp only [List.flatMap_cons,List.length_append,List.map_cons,Tr.sizes]; rw [ih a (by simp),ihl (fun t ht => ih t (by simp [ht]))]
def rem : List (AT × Nat) → List AT
 | [] => []
 | (x,k) :: st => (x.l.drop k).flatMap AT.post ++ (x :: rem st)
theorem rem_push {x : AT} {k : Nat} {st : List (AT × Nat)} (hk : k < x.l.length) : rem ((x.l[k],0) :: (x,k + 1) :: st) = rem ((x,k) :: st):=by
 simp only [rem,List.drop_zero]
 rw [List.drop_eq_getElem_cons hk,List.flatMap_cons,AT.post_eq x.l[k]]
 simp
theorem rem_pop {x : AT} {k : Nat} {st : List (AT × Nat)} (hk : x.l.length ≤ k) : rem ((x,k) :: st) = x :: rem st:=by
 simp only [rem]; rw [List.drop_of_length_le hk]; simp
theorem rem_len : ∀ st : List (AT × Nat),st.length ≤ (rem st).length
 | [] => by simp [rem]
 | (x,k) :: st => by have:=rem_len st; simp only [rem,List.length_append,List.length_cons]; omega
def Chain : List (AT × Nat) → Prop
 | [] => True
 | [_] => True
 | (y,_) :: (x,k) :: st => (∃ h : k - 1 < x.l.length,1 ≤ k ∧ x.l[k - 1] = y) ∧ Chain ((x,k) :: st)
def KidsDone (w : World) (G : Nat → Nat → Prop) (F : Tr → Tr) (x : AT) (m : Nat) : Prop:=∀ j (h : j < x.l.length),j < m → NodeG w G x.l[j].b x.l[j].o (mapT F x.l[j].tr)
def Done (w : World) (G : Nat → Nat → Prop) (F : Tr → Tr) : List (AT × Nat) → Prop
 | [] => True
 | (x,k) :: st => KidsDone w G F x k ∧ ∀ y ∈ st,KidsDone w G F y.1 (y.2 - 1)
def Gd (a : AT) (st : List (AT × Nat)) (b o : Nat) : Prop:=(b,o) ∈ a.all.map AT.ad ∧ (b,o) ∉ (rem st).map AT.ad
theorem KidsDone.keep {w w' : World} {G G' : Nat → Nat → Prop} {F : Tr → Tr} {x : AT} {m : Nat} (h : KidsDone w G F x m) (hG : ∀ b o,G b o → G' b o) (hk : ∀ b o,G b o → ∀ j,j < 22 → w'.cell? ⟨b,o + j,none⟩ = w.cell? ⟨b,o + j,none⟩) : KidsDone w' G' F x m :=
 fun j hj hm => NodeG.keep hG hk _ _ _ (h j hj hm)
theorem Done.keep {w w' : World} {G G' : Nat → Nat → Prop} {F : Tr → Tr} {st : List (AT × Nat)} (h : Done w G F st) (hG : ∀ b o,G b o → G' b o) (hk : ∀ b o,G b o → ∀ j,j < 22 → w'.cell? ⟨b,o + j,none⟩ = w.cell? ⟨b,o + j,none⟩) : Done w' G' F st:=by
 cases st with
 | nil => trivial
 | cons x st => exact ⟨h.1.keep hG hk,fun y hy => (h.2 y hy).keep hG hk⟩
theorem Done.push {w : World} {G : Nat → Nat → Prop} {F : Tr → Tr} {x : AT} {k : Nat} {st : List (AT × Nat)} (h : Done w G F ((x,k) :: st)) (y : AT) : Done w G F ((y,0) :: (x,k + 1) :: st) :=
 ⟨fun j _ hm => by omega,fun z hz => by
   rcases List.mem_cons.1 hz with rfl | hz
   · exact h.1
   · exact h.2 z hz⟩
theorem Done.pop {w : World} {G : Nat → Nat → Prop} {F : Tr → Tr} {x : AT} {k : Nat} {st : List (AT × Nat)} (h : Done w G F ((x,k) :: st)) (hc : Chain ((x,k) :: st)) (hx : NodeG w G x.b x.o (mapT F x.tr)) : Done w G F st:=by
 cases st with
 | nil => trivial
 | cons y st =>
   obtain ⟨y,m⟩:=y
   obtain ⟨⟨hm,hm1,rfl⟩,-⟩:=hc
   have h0:=h.2 (y,m) (by simp)
   refine ⟨fun j hj hjm => ?_,fun z hz => h.2 z (by simp [hz])⟩
   by_cases e : j = m - 1
   · subst e; exact hx
   · exact h0 j hj (by simp only; omega)
theorem Chain.tail {x : AT × Nat} {st : List (AT × Nat)} (h : Chain (x :: st)) : Chain st:=by
 cases st with
 | nil => trivial
 | cons y st => obtain ⟨x,k⟩:=x; obtain ⟨y,m⟩:=y; exact h.2
theorem Chain.push {x : AT} {k : Nat} {st : List (AT × Nat)} (h : Chain ((x,k) :: st)) (hk : k < x.l.length) : Chain ((x.l[k],0) :: (x,k + 1) :: st):=by
 refine ⟨⟨by simpa using hk,by omega,by simp⟩,?_⟩
 cases st with
 | nil => trivial
 | cons y st => obtain ⟨y,m⟩:=y; exact h
def mc (x : AT × Nat) : List Value:=[.pointer (some ⟨x.1.b,x.1.o,none⟩),.int .i64 x.2]
theorem mc_len (st : List (AT × Nat)) : (st.flatMap mc).length = st.length * 2:=by
 induction st with
 | nil => rfl
 | cons x st ih => simp [List.flatMap_cons,ih,mc]; omega
theorem mc_top (st : List (AT × Nat)) (x : AT × Nat) : ((st ++ [x]).flatMap mc)[st.length * 2]? = some (.pointer (some ⟨x.1.b,x.1.o,none⟩)) ∧ ((st ++ [x]).flatMap mc)[st.length * 2 + 1]? = some (.int .i64 x.2):=by
 rw [List.flatMap_append,← mc_len st]
 constructor <;> simp [mc]
theorem mc_next (st : List (AT × Nat)) (x : AT) (k : Nat) : ((st ++ [(x,k)]).flatMap mc).set (st.length * 2 + 1) (.int .i64 ((k + 1 : Nat) : Int)) = (st ++ [(x,k + 1)]).flatMap mc:=by
 rw [List.flatMap_append,List.flatMap_append,← mc_len st,List.set_append_right _ _ (by omega)]
 congr 1
 simp [mc]
structure MS (T : TypeId) (lo : Nat) (a : AT) (F : Tr → Tr) (J : Nat → World → Prop) (wr : World) (st : List (AT × Nat)) (g cap : Nat) : Prop where
 own : wr.ownsRow (lo + 2) T 2 (.slice (some ⟨g,0,none⟩) st.length cap) st.length (st.reverse.flatMap mc)
 chain : Chain st
 root : st ≠ [] → ∃ k,st.getLast? = some (a,k)
 nodup : ((rem st).map AT.ad).Nodup
 sub : ∀ y ∈ rem st,y ∈ a.all
 fresh : ∀ y ∈ rem st,FreshAt wr lo y
 done : Done wr (Gd a st) F st
 off : ∀ y ∈ a.all,y.b ≠ g ∧ y.b ≠ lo + 1 ∧ lo ≤ y.b ∧ y.b < wr.heap.size ∧ y.o % 22 = 0
 glo : lo + 2 ≤ g
 siz : lo + 3 ≤ wr.heap.size
 all : (rem st).length ≤ a.tr.size
 jj : J (a.tr.size - (rem st).length) wr
 res : ∃ Z,Z.size = 22 ∧ wr.heap[lo + 1]? = some (.cells Z 34)
 fin : st = [] → NodeG wr (Gd a []) a.b a.o (mapT F a.tr)
def FOk (P : Program) (fi : Nat) (caps : Array Value) (F : Tr → Tr) (lo : Nat) (J : Nat → World → Prop) : Prop :=
 ∀ (k : Nat) (wx : World) (d : ND) (l : List Tr) (A : Option Addr) (c : Nat) (G : Nat → Nat → Prop),J k wx → lo ≤ wx.heap.size → d.ok → SlG wx G A c l → (∀ b o,G b o → lo ≤ b ∧ b < wx.heap.size) → l.length ≤ 1048576 →
   Calls P fi (#[nodeV d A l.length c] ++ caps) wx fun e w' => ∃ A' c',e = .returned (nodeV (F (.mk d l)).d A' (F (.mk d l)).l.length c') ∧ (F (.mk d l)).d.ok ∧ SlG w' G A' c' (F (.mk d l)).l ∧ J (k + 1) w' ∧ wx.heap.size ≤ w'.heap.size ∧ (∀ b,lo ≤ b → b < wx.heap.size → w'.heap[b]? = wx.heap[b]?)
def JOk (lo : Nat) (J : Nat → World → Prop) : Prop:=∀ k w w',J k w → Below lo w w' → J k w'
theorem Gd.blocks {a : AT} {st : List (AT × Nat)} {b o : Nat} (h : Gd a st b o) : ∃ y ∈ a.all,y.b = b ∧ y.o = o:=by
 obtain ⟨y,hy,e⟩:=List.mem_map.1 h.1
 simp only [AT.ad,Prod.mk.injEq] at e
 exact ⟨y,hy,e.1,e.2⟩
theorem MS.push {T : TypeId} {lo : Nat} {a : AT} {F : Tr → Tr} {J : Nat → World → Prop} {wr w1 : World} {x : AT} {k : Nat} {st : List (AT × Nat)} {g cap g2 cap2 : Nat} {o : Obj} (hJ : JOk lo J) (h : MS T lo a F J wr ((x, k) :: st) g cap) (hk : k < x.l.length)
   (hgr : ((wr.setCell ⟨g,st.length * 2 + 1,none⟩ (.int .i64 ((k + 1 : Nat) : Int))).alloc o).grownBy w1 (some g)) (hat : (some g : Option Nat) = some g2 ∨ g2 = wr.heap.size + 1)
   (hown : w1.ownsRow (lo + 2) T 2 (.slice (some ⟨g2,0,none⟩) (st.length + 2) cap2) (st.length + 2) (((x,k + 1) :: st).reverse.flatMap mc ++ mc (x.l[k],0))) : MS T lo a F J w1 ((x.l[k],0) :: (x,k + 1) :: st) g2 cap2:=by
 have hblk : ∀ b,b < wr.heap.size → b ≠ g → w1.heap[b]? = wr.heap[b]?:=fun b hb hn => by
   refine (hgr.block b (by simp; omega) (fun e => hn (Option.some.inj e))).trans ((heapOld _ o b (by rw [size_setCell]; exact hb)).trans (heap_setCell_other _ _ _ _ ?_))
   exact hn
 have hsz : wr.heap.size + 1 ≤ w1.heap.size:=by have:=hgr.size; simp at this; omega
 have hrem:=rem_push (st:=st) hk
 have hGd : Gd a ((x.l[k],0) :: (x,k + 1) :: st) = Gd a ((x,k) :: st):=by unfold Gd; rw [hrem]
 have hcell : ∀ b o,Gd a ((x,k) :: st) b o → ∀ j,j < 22 → w1.cell? ⟨b,o + j,none⟩ = wr.cell? ⟨b,o + j,none⟩:=fun b o hg j _ => by
   obtain ⟨y,hy,rfl,rfl⟩:=hg.blocks
   exact World.cell?_of_block (a:=⟨y.b,y.o + j,none⟩) (hblk y.b (h.off y hy).2.2.2.1 (h.off y hy).1)
 have hsz3:=h.siz
 have hglo:=h.glo
 refine ⟨?_,h.chain.push hk,?_,by rw [hrem]; exact h.nodup,by rw [hrem]; exact h.sub,?_,?_,?_,?_,by omega,by rw [hrem]; exact h.all,?_,?_,fun e => by cases e⟩
 · have e : ((x.l[k],0) :: (x,k + 1) :: st).reverse.flatMap mc = ((x,k + 1) :: st).reverse.flatMap mc ++ mc (x.l[k],0):=by
     rw [List.reverse_cons,List.flatMap_append]; simp
   rw [e]; exact hown
 · intro _
   obtain ⟨m,hm⟩:=h.root (by simp)
   cases st with
   | nil =>
     simp only [List.getLast?_singleton,Option.some.injEq,Prod.mk.injEq] at hm
     exact ⟨k + 1,by simp [hm.1]⟩
   | cons z st => exact ⟨m,by rw [List.getLast?_cons_cons,List.getLast?_cons_cons]; rw [List.getLast?_cons_cons] at hm; exact hm⟩
 · rw [hrem]
   exact fun y hy => (h.fresh y hy).block (by omega) (hblk y.b (h.off y (h.sub y hy)).2.2.2.1 (h.off y (h.sub y hy)).1)
 · rw [hGd]; exact (h.done.push x.l[k]).keep (fun _ _ hg => hg) hcell
 · intro y hy
   obtain ⟨h1,h2,h3,h4,h5⟩:=h.off y hy
   refine ⟨?_,h2,h3,by omega,h5⟩
   rcases hat with e | e
   · have:=Option.some.inj e; omega
   · omega
 · rcases hat with e | e
   · have:=Option.some.inj e; omega
   · omega
 · rw [hrem]
   refine hJ _ _ _ h.jj ?_
   exact (((Below.refl lo wr).setCell (by simp only; omega) _).alloc (by rw [size_setCell]; omega) o).grown hgr (by simp; omega) (fun j e => by have:=Option.some.inj e; omega)
 · obtain ⟨Z,hZ1,hZ2⟩:=h.res
   exact ⟨Z,hZ1,(hblk (lo + 1) (by omega) (by omega)).trans hZ2⟩
end Go.Proofs.YtbkmnboicihchaaGreat
namespace Go.Proofs.YtbkmnboicihchaaGreat
open Go.RowKit Go.Shelf
theorem sz_setCells (b : Nat) : ∀ (vs : List Value) (o : Nat) (w : World),(w.setCells b o vs).heap.size = w.heap.size
 | [],_,_ => rfl
 | v :: vs,o,w => by rw [World.setCells,sz_setCells b vs (o + 1),size_setCell]
theorem heap_setCells_far (b : Nat) {g : Nat} (h : g ≠ b) : ∀ (vs : List Value) (o : Nat) (w : World),(w.setCells b o vs).heap[g]? = w.heap[g]?
 | [],_,_ => rfl
 | v :: vs,o,w => by rw [World.setCells,heap_setCells_far b h vs (o + 1),heap_setCell_other _ _ _ _ h]
theorem below_setCells2 {B b : Nat} (hb : B ≤ b) : ∀ (vs : List Value) (o : Nat) (w : World),Below B w (w.setCells b o vs)
 | [],_,_ => Below.refl _ _
 | v :: vs,o,w => by
   rw [World.setCells]
   exact ((Below.refl B w).setCell (by simpa using hb) v).trans (below_setCells2 hb vs (o + 1) _)
theorem NodeCells.store {w : World} {b o : Nat} {d : ND} {A : Option Addr} {n c : Nat} (h : ∀ j,j < 22 → (w.cell? ⟨b,o + j,none⟩).isSome = true) : NodeCells (w.setCells b o (nodeA d A n c).toList) b o d A n c:=by
 intro j hj
 have hl : (nodeA d A n c).toList.length = 22:=rfl
 rw [World.cell?_setCells_in b _ o w (fun i hi => h i (by rw [hl] at hi; exact hi)) j (by rw [hl]; exact hj)]
 simp
theorem MS.kids {T : TypeId} {lo : Nat} {a : AT} {F : Tr → Tr} {J : Nat → World → Prop} {wr : World} {x : AT} {k : Nat} {st : List (AT × Nat)} {g cap : Nat} (h : MS T lo a F J wr ((x, k) :: st) g cap) (hk : x.l.length ≤ k) :
   ∃ A c,NodeCells wr x.b x.o x.d A x.l.length c ∧ x.d.ok ∧ SlG wr (Gd a ((x,k) :: st)) A c (x.l.map fun y => mapT F y.tr):=by
 obtain ⟨h1,h2,h3,h4,h5,A,c,h6,h7,h8,h9⟩:=h.fresh x (by rw [rem_pop hk]; simp)
 refine ⟨A,c,h6,h4,by rw [List.length_map]; exact h7,h8,?_⟩
 rcases h9 with h9 | ⟨b',hA,h9⟩
 · exact .inl (by rw [h9]; rfl)
 · refine .inr ⟨b',0,hA,KidsG.of (fun i hi => ?_)⟩
   have hi' : i < x.l.length:=by rw [List.length_map] at hi; exact hi
   have:=h.done.1 i hi' (by omega)
   have e : x.l[i].b = b' ∧ x.l[i].o = i * 22:=by have:=h9 i hi'; simpa [AT.ad] using this
   rw [List.getElem_map,Nat.zero_add,← e.1,← e.2]; exact this
theorem MS.finish {T : TypeId} {lo : Nat} {a : AT} {F : Tr → Tr} {J : Nat → World → Prop} {wr w2 : World} {x : AT} {k : Nat} {st : List (AT × Nat)} {g cap : Nat} {A' : Option Addr} {c' : Nat} (hJ : JOk lo J) (h : MS T lo a F J wr ((x, k) :: st) g cap) (hk : x.l.length ≤ k)
   (hs : wr.heap.size ≤ w2.heap.size) (hb : ∀ b,lo ≤ b → b < wr.heap.size → w2.heap[b]? = wr.heap[b]?) (hj : J (a.tr.size - (rem ((x,k) :: st)).length + 1) w2) (hd : (mapT F x.tr).d.ok) (hsl : SlG w2 (Gd a ((x,k) :: st)) A' c' (mapT F x.tr).l) :
   MS T lo a F J (w2.setCells x.b x.o (nodeA (mapT F x.tr).d A' (mapT F x.tr).l.length c').toList) st g cap:=by
 have hrem:=rem_pop (st:=st) hk
 have hxr : x ∈ rem ((x,k) :: st):=by rw [hrem]; simp
 have hxa:=h.sub x hxr
 obtain ⟨f1,f2,f3,f4,f5,fA,fc,f6,f7⟩:=h.fresh x hxr
 obtain ⟨o1,o2,o3,o4,o5⟩:=h.off x hxa
 have hnd:=h.nodup
 rw [hrem,List.map_cons,List.nodup_cons] at hnd
 have hs3:=h.siz
 have hg:=h.glo
 have hGs : ∀ b o,Gd a ((x,k) :: st) b o → Gd a st b o:=fun b o hg' => ⟨hg'.1,fun hm => hg'.2 (by rw [hrem,List.map_cons]; exact List.mem_cons_of_mem _ hm)⟩
 have hGx : Gd a st x.b x.o:=⟨List.mem_map.2 ⟨x,hxa,rfl⟩,hnd.1⟩
 have hwr2 : ∀ b o,Gd a ((x,k) :: st) b o → ∀ j,j < 22 → w2.cell? ⟨b,o + j,none⟩ = wr.cell? ⟨b,o + j,none⟩:=fun b o hg' j _ => by
   obtain ⟨y,hy,rfl,rfl⟩:=hg'.blocks
   exact World.cell?_of_block (a:=⟨y.b,y.o + j,none⟩) (hb y.b (h.off y hy).2.2.1 (h.off y hy).2.2.2.1)
 have hl : ∀ (d : ND) (A : Option Addr) (n c : Nat),(nodeA d A n c).toList.length = 22:=fun _ _ _ _ => rfl
 have h23 : ∀ b o,Gd a ((x,k) :: st) b o → ∀ j,j < 22 → (w2.setCells x.b x.o (nodeA (mapT F x.tr).d A' (mapT F x.tr).l.length c').toList).cell? ⟨b,o + j,none⟩ = w2.cell? ⟨b,o + j,none⟩:=fun b o hg' j hj => by
   obtain ⟨y,hy,rfl,rfl⟩:=hg'.blocks
   refine World.cell?_setCells_out _ _ _ _ _ (fun e _ => ?_)
   rw [hl]
   have h1 : y.o ≠ x.o:=fun e2 => hg'.2 (by
     rw [hrem,List.map_cons]
     exact List.mem_cons.2 (.inl (by simp only [AT.ad,Prod.mk.injEq]; exact ⟨e,e2⟩)))
   have h2:=(h.off y hy).2.2.2.2
   simp only
   omega
 have hsome : ∀ j,j < 22 → (w2.cell? ⟨x.b,x.o + j,none⟩).isSome = true:=fun j hj => by
   rw [World.cell?_of_block (a:=⟨x.b,x.o + j,none⟩) (hb x.b o3 o4),f6 j hj]
   have : j < (nodeA x.d fA x.l.length fc).size:=by rw [nodeA_size]; exact hj
   simp [this]
 have hnode : NodeG (w2.setCells x.b x.o (nodeA (mapT F x.tr).d A' (mapT F x.tr).l.length c').toList) (Gd a st) x.b x.o (mapT F x.tr) :=
   NodeG.mk hGx hd (NodeCells.store hsome) (hsl.keep hGs h23)
 have hdone : Done (w2.setCells x.b x.o (nodeA (mapT F x.tr).d A' (mapT F x.tr).l.length c').toList) (Gd a st) F ((x,k) :: st):=h.done.keep hGs (fun b o hg' j hj => (h23 b o hg' j hj).trans (hwr2 b o hg' j hj))
 have hfar : ∀ b,lo ≤ b → b < wr.heap.size → b ≠ x.b → (w2.setCells x.b x.o (nodeA (mapT F x.tr).d A' (mapT F x.tr).l.length c').toList).heap[b]? = wr.heap[b]?:=fun b h1 h2 h3 => (heap_setCells_far x.b h3 _ _ _).trans (hb b h1 h2)
 have hrl : (rem ((x,k) :: st)).length = (rem st).length + 1:=by rw [hrem,List.length_cons]
 have hall:=h.all
 refine ⟨?_,h.chain.tail,?_,hnd.2,fun y hy => h.sub y (by rw [hrem]; exact List.mem_cons_of_mem _ hy),?_,hdone.pop h.chain hnode,?_,hg,by rw [sz_setCells]; omega,by omega,?_,?_,?_⟩
 · have hown:=h.own
   rw [List.reverse_cons,List.flatMap_append] at hown
   have hp:=ownsRow_pop (w:=wr) (n:=st.length) (by rw [mc_len,List.length_reverse]) hown
   refine ⟨hp.1,?_⟩
   rcases hp.2 with e | ⟨g',cap',cur,hv,h2,h3,h4⟩
   · exact .inl e
   · refine .inr ⟨g',cap',cur,hv,h2,?_,h4⟩
     simp only [Value.slice.injEq,Option.some.injEq,Addr.mk.injEq,and_true] at hv
     obtain ⟨rfl,-⟩:=hv
     rw [hfar g (by omega) (Array.getElem?_eq_some_iff.1 h3).1 (fun e => o1 e.symm)]; exact h3
 · intro hne
   obtain ⟨m,hm⟩:=h.root (by simp)
   cases st with
   | nil => exact absurd rfl hne
   | cons z st => exact ⟨m,by rw [List.getLast?_cons_cons] at hm; exact hm⟩
 · intro y hy
   have hy2 : y ∈ rem ((x,k) :: st):=by rw [hrem]; exact List.mem_cons_of_mem _ hy
   obtain ⟨q1,q2,q3,q4,q5,qA,qc,q6,q7⟩:=h.fresh y hy2
   have hne : y.ad ≠ x.ad:=fun e => hnd.1 (by rw [← e]; exact List.mem_map.2 ⟨y,hy,rfl⟩)
   have hyb:=h.off y (h.sub y hy2)
   refine ⟨q1,by rw [sz_setCells]; omega,q3,q4,fun o => ?_,qA,qc,fun j hj => ?_,q7⟩
   · rw [World.frozen?_setCells]
     have:=q5 o
     unfold World.frozen? at this ⊢
     rw [hb y.b hyb.2.2.1 hyb.2.2.2.1]; exact this
   · rw [World.cell?_setCells_out _ _ _ _ _ (fun e _ => ?_),World.cell?_of_block (a:=⟨y.b,y.o + j,none⟩) (hb y.b hyb.2.2.1 hyb.2.2.2.1)]
     · exact q6 j hj
     · rw [hl]
       have h1 : y.o ≠ x.o:=fun e2 => hne (by simp only [AT.ad,Prod.mk.injEq]; exact ⟨e,e2⟩)
       simp only
       omega
 · intro y hy
   obtain ⟨h1,h2,h3,h4,h5⟩:=h.off y hy
   exact ⟨h1,h2,h3,by rw [sz_setCells]; omega,h5⟩
 · have e : a.tr.size - (rem st).length = a.tr.size - (rem ((x,k) :: st)).length + 1:=by omega
   rw [e]
   exact hJ _ _ _ hj (below_setCells2 o3 _ _ _)
 · obtain ⟨Z,hZ1,hZ2⟩:=h.res
   exact ⟨Z,hZ1,(hfar (lo + 1) (by omega) (by omega) (fun e => o2 e.symm)).trans hZ2⟩
 · intro e
   subst e
   obtain ⟨m,hm⟩:=h.root (by simp)
   simp only [List.getLast?_singleton,Option.some.injEq,Prod.mk.injEq] at hm
   obtain ⟨rfl,-⟩:=hm
   exact hnode
theorem AT.tr_eq' (x : AT) : x.tr = .mk x.d (x.l.map AT.tr):=by obtain ⟨b,o,d,l⟩:=x; rw [AT.tr_mk]; rfl
def FinPost (T : TypeId) (lo : Nat) (a : AT) (F : Tr → Tr) (J : Nat → World → Prop) (x : AT) (st : List (AT × Nat)) (g cap : Nat) (v : Value) (e : Ending) (w' : World) : Prop :=
 ∃ cells : Array Value,e = .returned (.agg cells) ∧ cells.size = 22 ∧ cells.all (·.oneCell') = true ∧ w'.there x.b x.o 22 ∧ w'.cell? ⟨g,st.length * 2,none⟩ = some v ∧ (w'.setCells x.b x.o cells.toList).cell? ⟨g,st.length * 2,none⟩ = some v ∧ MS T lo a F J (w'.setCells x.b x.o cells.toList) st g cap
theorem MS.prep {P : Program} {fi : Nat} {caps : Array Value} {T : TypeId} {lo : Nat} {a : AT} {F : Tr → Tr} {J : Nat → World → Prop} {wr : World} {x : AT} {k : Nat} {st : List (AT × Nat)} {g cap : Nat} (hJ : JOk lo J) (hf : FOk P fi caps F lo J) (h : MS T lo a F J wr ((x, k) :: st) g cap) (hk : x.l.length ≤ k) (hn : x.l.length ≤ 1048576) (v : Value) (hv : wr.cell? ⟨g, st.length * 2, none⟩ = some v) :
   ∃ cs : List Value,cs.length = 22 ∧ wr.rangeAt x.b x.o cs ∧ Calls P fi (#[.agg cs.toArray] ++ caps) wr (FinPost T lo a F J x st g cap v):=by
 obtain ⟨kA,kc,hx1,hx2,hx3⟩:=MS.kids h hk
 obtain ⟨cs,e1,e2,e3⟩:=hx1.range (fun _ _ => rfl)
 have hxr : x ∈ rem ((x,k) :: st):=by rw [rem_pop hk]; simp
 have hxo:=h.off x (h.sub x hxr)
 have hgl:=(h.own.lt g rfl).2
 have hg:=h.glo
 refine ⟨cs,e2,e3,?_⟩
 have hcal:=hf (a.tr.size - (rem ((x,k) :: st)).length) wr x.d (x.l.map fun y : AT => mapT F y.tr) kA kc (Gd a ((x,k) :: st)) h.jj (by have:=h.siz; omega) hx2 hx3 (fun b o hg' => by obtain ⟨y,hy,rfl,rfl⟩:=hg'.blocks; exact ⟨(h.off y hy).2.2.1,(h.off y hy).2.2.2.1⟩) (by rw [List.length_map]; exact hn)
 have hFe : F (.mk x.d (x.l.map fun y => mapT F y.tr)) = mapT F x.tr:=by rw [AT.tr_eq' x,mapT_mk,List.map_map]; rfl
 rw [List.length_map,nodeV,← e1,hFe] at hcal
 refine hcal.mono ?_
 rintro e w' ⟨A',c',rfl,hd',hs',hj',hz',hb'⟩
 have hfin:=MS.finish hJ h hk hz' hb' hj' hd' hs'
 have hblk:=hb' x.b hxo.2.2.1 hxo.2.2.2.1
 obtain ⟨q1,q2,q3,q4,q5,qA,qc,q6,-⟩:=h.fresh x hxr
 refine ⟨_,rfl,rfl,all_oneCell_toArray (fun u hu => head_one _ _ _ _ u hu),fun j hj => ⟨?_,?_⟩,?_,?_,hfin⟩
 · rw [World.cell?_of_block (a:=⟨x.b,x.o + j,none⟩) hblk,q6 j hj]
   have : j < (nodeA x.d qA x.l.length qc).size:=by rw [nodeA_size]; exact hj
   simp [this]
 · have:=q5 (x.o + j)
   unfold World.frozen? at this ⊢
   rw [hblk]; exact this
 · rw [World.cell?_of_block (a:=⟨g,st.length * 2,none⟩) (hb' g (by omega) hgl)]; exact hv
 · rw [World.cell?_setCells_out _ _ _ _ _ (fun e _ => absurd e.symm hxo.1),World.cell?_of_block (a:=⟨g,st.length * 2,none⟩) (hb' g (by omega) hgl)]; exact hv
theorem AT.sub_size (a : AT) : ∀ y ∈ a.all,y.tr.size ≤ a.tr.size:=by
 induction a using AT.ind with
 | _ b o d l ih =>
   intro y hy
   rw [AT.all_mk] at hy
   rcases List.mem_cons.1 hy with rfl | hy
   · exact Nat.le_refl _
   · obtain ⟨z,hz,hyz⟩:=List.mem_flatMap.1 hy
     have h1:=ih z hz y hyz
     rw [AT.tr_mk,Tr.size]
     have : ∀ m : List AT,z ∈ m → z.tr.size ≤ Tr.sizes (m.map AT.tr):=by
       intro m
       induction m with
       | nil => intro h; cases h
       | cons q m ihm =>
         intro h
         simp only [List.map_cons,Tr.sizes]
         rcases List.mem_cons.1 h with rfl | h
         · omega
         · have:=ihm h; omega
     have:=this l hz
     omega
theorem AT.len_size (a : AT) : a.l.length ≤ a.tr.size:=by
 rw [AT.tr_eq' a,Tr.size]
 have : ∀ m : List AT,m.length ≤ Tr.sizes (m.map AT.tr):=by
   intro m
   induction m with
   | nil => simp
   | cons q m ihm => simp only [List.map_cons,Tr.sizes,List.length_cons]; have:=q.tr.size_pos; omega
 have:=this a.l
 omega
theorem MS.start {w2 : World} {lo : Nat} {t : Tr} {A2 : Option Addr} {c2 : Nat} {ks : List AT} {F : Tr → Tr} {J : Nat → World → Prop} {T : TypeId} {N Z : Array Value} (hJ : JOk lo J) (hk1 : ks.map AT.tr = t.l) (hk2 : FreshKids w2 (lo + 2) A2 c2 ks) (hd : t.d.ok)
   (h0 : w2.heap[lo]? = some (.cells N 34)) (h1 : w2.heap[lo + 1]? = some (.cells Z 34)) (hZ : Z.size = 22) (hsz : lo + 2 ≤ w2.heap.size) (hj : J 0 w2) :
   MS T lo (AT.mk lo 0 t.d ks) F J ((w2.setRow lo (nodeA t.d A2 t.l.length c2)).alloc (.cells #[.pointer (some ⟨lo,0,none⟩),.int .i64 0] T)) [(AT.mk lo 0 t.d ks,0)] w2.heap.size 1:=by
 have hrem : rem [(AT.mk lo 0 t.d ks,0)] = (AT.mk lo 0 t.d ks).post:=by
   simp only [rem,List.drop_zero,AT.l,AT.post_mk]
 have hkl : ks.length = t.l.length:=by rw [← hk1,List.length_map]
 have hW : ((w2.setRow lo (nodeA t.d A2 t.l.length c2)).alloc (.cells #[.pointer (some ⟨lo,0,none⟩),.int .i64 0] T)).heap.size = w2.heap.size + 1:=by simp
 have hb : ∀ b,b < w2.heap.size → b ≠ lo → ((w2.setRow lo (nodeA t.d A2 t.l.length c2)).alloc (.cells #[.pointer (some ⟨lo,0,none⟩),.int .i64 0] T)).heap[b]? = w2.heap[b]?:=fun b hb hn =>
   (heapOld _ _ b (by simpa using hb)).trans (setRow_other _ _ _ _ hn)
 have hlo : ((w2.setRow lo (nodeA t.d A2 t.l.length c2)).alloc (.cells #[.pointer (some ⟨lo,0,none⟩),.int .i64 0] T)).heap[lo]? = some (.cells (nodeA t.d A2 t.l.length c2) 34) :=
   (heapOld _ _ lo (by simp; omega)).trans (setRow_heap _ _ _ _ _ _ h0)
 have hall : ∀ y ∈ (AT.mk lo 0 t.d ks).all,FreshAt ((w2.setRow lo (nodeA t.d A2 t.l.length c2)).alloc (.cells #[.pointer (some ⟨lo,0,none⟩),.int .i64 0] T)) lo y ∧ y.b ≠ lo + 1 ∧ y.b < w2.heap.size:=by
   intro y hy
   rw [AT.all_mk] at hy
   rcases List.mem_cons.1 hy with rfl | hy
   · refine ⟨⟨Nat.le_refl _,by rw [hW]; simp only [AT.b]; omega,rfl,hd,fun o => by simp only [AT.b]; unfold World.frozen?; rw [hlo]; simp,A2,c2,?_,hk2.cap,hk2.max,hk2.at_⟩,by simp only [AT.b]; omega,by simp only [AT.b]; omega⟩
     intro j hj
     simp only [AT.b,AT.o,AT.d,AT.l]
     rw [cell_of_row _ _ _ _ _ _ hlo,Nat.zero_add,hkl]
   · have hf:=hk2.ok y hy
     refine ⟨?_,by have:=hf.1; omega,hf.2.1⟩
     have h3:=hf.block (w':=(w2.setRow lo (nodeA t.d A2 t.l.length c2)).alloc (.cells #[.pointer (some ⟨lo,0,none⟩),.int .i64 0] T)) (by rw [hW]; omega) (hb y.b hf.2.1 (by have:=hf.1; omega))
     exact ⟨by have:=h3.1; omega,h3.2⟩
 have hnd : ((AT.mk lo 0 t.d ks).all.map AT.ad).Nodup:=by
   rw [AT.all_mk,List.map_cons,List.nodup_cons]
   refine ⟨fun h => ?_,hk2.nodup⟩
   obtain ⟨y,hy,he⟩:=List.mem_map.1 h
   have h3:=(hk2.ok y hy).1
   have h4 : y.b = lo:=congrArg Prod.fst he
   omega
 have hperm:=AT.post_perm (AT.mk lo 0 t.d ks)
 refine ⟨⟨rfl,.inr ⟨w2.heap.size,1,#[.pointer (some ⟨lo,0,none⟩),.int .i64 0],rfl,hsz,?_,Nat.le_refl _,by unfold maxLen; omega,rfl,rfl⟩⟩,trivial,fun _ => ⟨0,rfl⟩,?_,?_,?_,⟨fun j _ hm => by omega,fun y hy => by cases hy⟩,?_,hsz,by rw [hW]; omega,?_,?_,?_,fun e => by cases e⟩
 · have h3:=World.alloc_heap_new (w2.setRow lo (nodeA t.d A2 t.l.length c2)) (.cells #[.pointer (some ⟨lo,0,none⟩),.int .i64 0] T)
   rwa [setRow_size] at h3
 · rw [hrem]; exact (hperm.map AT.ad).nodup_iff.2 hnd
 · rw [hrem]; exact fun y hy => hperm.mem_iff.1 hy
 · rw [hrem]; exact fun y hy => (hall y (hperm.mem_iff.1 hy)).1
 · intro y hy
   obtain ⟨h3,h4,h5⟩:=hall y hy
   exact ⟨by omega,h4,h3.1,h3.2.1,h3.2.2.1⟩
 · rw [hrem,AT.post_len]; exact Nat.le_refl _
 · rw [hrem,AT.post_len,Nat.sub_self]
   refine hJ _ _ _ hj ⟨rfl,rfl,rfl,by rw [hW]; omega,fun b hb' => hb b (by omega) (by omega)⟩
 · exact ⟨Z,hZ,(hb (lo + 1) (by omega) (by omega)).trans h1⟩
end Go.Proofs.YtbkmnboicihchaaGreat
namespace Go.Proofs.YtbkmnboicihchaaGreat
open Go
theorem wanted_none {o : Oper} {y : Nat → Option Bool} (h : o.guard = none) : Region.wanted o y = true:=by simp [Region.wanted,h]
variable {P : Program} {md : Region.Mode} {ops : Array Oper} {Q : Exit → Act → World → Prop} {S : World → Prop}
theorem wpAnyH_loadRow {i : Nat} {o : Oper} {fuel : Nat} {listed : Array Bool} {a : Act} {w : World} (hr : Region.ready md ops listed = [i]) (ho : ops[i]? = some o) (hg : o.guard = none) (ty : TypeId) (x : Operand) (hop : o.op = .load ty x)
   (b p : Nat) (hx : a.eval x = .pointer (some ⟨b,p,none⟩)) (cs : List Value) (d : TypeDesc) (hc : w.rangeAt b p cs) (hu : P.underlying ty = some d) (hd : d.isRow = true) (hi : (P.info? ty).map (·.size) = some cs.length) (hS : S w)
   (h : S w → wpAnyH P md ops Q S fuel (listed.setIfInBounds i true) (a.put o.dst (.agg cs.toArray)) w) : wpAnyH P md ops Q S (fuel + 1) listed a w :=
 wpAnyH_ready hr (by simp) (AllReadyH.cons ho (fun K hK => by
   rw [if_pos (wanted_none hg)]
   exact wp_load_mid ty x hop b p hx cs d hc hu hd hi (hK.out _ _ hS h)) AllReadyH.nil)
theorem wpAnyH_storeRow {i : Nat} {o : Oper} {fuel : Nat} {listed : Array Bool} {a : Act} {w : World} (hr : Region.ready md ops listed = [i]) (ho : ops[i]? = some o) (hg : o.guard = none) (ty : TypeId) (x y : Operand) (hop : o.op = .store ty x y)
   (b p : Nat) (cells : Array Value) (hx : a.eval x = .pointer (some ⟨b,p,none⟩)) (hy : a.eval y = .agg cells) (ht : w.there b p cells.size) (hi : (P.info? ty).map (·.size) = some cells.size) (h1 : cells.all (·.oneCell') = true) (hS : S (w.setCells b p cells.toList))
   (h : S (w.setCells b p cells.toList) → wpAnyH P md ops Q S fuel (listed.setIfInBounds i true) (a.put o.dst undef) (w.setCells b p cells.toList)) : wpAnyH P md ops Q S (fuel + 1) listed a w :=
 wpAnyH_ready hr (by simp) (AllReadyH.cons ho (fun K hK => by
   rw [if_pos (wanted_none hg)]
   exact wp_store_mid ty x y hop b p cells hx hy ht hi h1 (hK.out _ _ hS h)) AllReadyH.nil)
end Go.Proofs.YtbkmnboicihchaaGreat
namespace Go.Proofs.YtbkmnboicihchaaGreat
set_option maxRecDepth 100000
set_option maxHeartbeats 4000000
open Go.RowKit Go.Shelf
theorem FreshKids.row {w : World} {lo : Nat} {A : Option Addr} {c : Nat} {ks : List AT} (h : FreshKids w lo A c ks) (g : Nat) (hg : g < lo) (cs : Array Value) : FreshKids (w.setRow g cs) lo A c ks :=
 h.block (by simp) (fun b h1 _ _ => setRow_other _ _ _ _ (by omega))
theorem FreshKids.lo_ {w : World} {lo lo' : Nat} {A : Option Addr} {c : Nat} {ks : List AT} (h : FreshKids w lo A c ks) (hl : lo' ≤ lo) : FreshKids w lo' A c ks :=
 ⟨h.cap,h.max,h.at_,h.nodup,fun x hx => by obtain ⟨h1,h2⟩:=h.ok x hx; exact ⟨by omega,h2⟩⟩
theorem node_one (d : ND) (A : Option Addr) (n c : Nat) : (nodeA d A n c).all (·.oneCell') = true:=all_oneCell_toArray (fun u hu => head_one d A n c u hu)
theorem eqFnil (w : World) : (binOp .eql 86 .nilFunc .nilFunc).run Tryz.prog w = .ok (.bool true) w:=by kernel_rfl
theorem eqFfun (w : World) (fi : Nat) (caps : Array Value) : (binOp .eql 86 (.func (.func fi) #[] caps) .nilFunc).run Tryz.prog w = .ok (.bool false) w:=by kernel_rfl
theorem mapNil_c (t : Tr) (w : World) (A : Option Addr) (c : Nat) (hd : t.d.ok) (hs : SlAt w w.heap.size A c t.l) (hz : t.size ≤ 1048576) :
   Calls Tryz.prog 23 #[nodeV t.d A t.l.length c,.nilFunc] w (CopyPost w t):=by
 obtain ⟨N,hN⟩ : ∃ N,N = nodeA t.d A t.l.length c:=⟨_,rfl⟩
 obtain ⟨W,hW⟩ : ∃ W,W = (w.alloc (.cells N 34)).alloc (.cells (nodeA zD none 0 0) 34):=⟨_,rfl⟩
 have hbW : Below w.heap.size w W:=by rw [hW]; exact ((Below.refl _ w).alloc (Nat.le_refl _) _).alloc (by simp) _
 have hWs : W.heap.size = w.heap.size + 2:=by rw [hW]; simp
 have hcp:=copied_c t W A c hd ((hs.below hbW).more (by omega)) hz
 have hW0 : W.heap[w.heap.size]? = some (.cells N 34):=by rw [hW,heapOld _ _ _ (by simp)]; exact World.alloc_heap_new w _
 have hW1 : W.heap[w.heap.size + 1]? = some (.cells (nodeA zD none 0 0) 34):=by
   rw [hW]; have:=World.alloc_heap_new (w.alloc (.cells N 34)) (.cells (nodeA zD none 0 0) 34); rwa [World.size_alloc] at this
 have hNs : N.size = 22:=by rw [hN]; rfl
 rw [nodeV,← hN] at hcp ⊢
 have HCP:=Lib.hid hcp
 have HW:=Lib.hid hW
 have HW0:=Lib.hid hW0
 have HW1:=Lib.hid hW1
 have HWS:=Lib.hid hWs
 have HNS:=Lib.hid hNs
 have HBW:=Lib.hid hbW
 clear hcp hW hW0 hW1 hWs hN hNs hbW
 go_enter Tryz.func23,Tryz.ntmps23
 go_wp2_with (first | (refine wpList_nodeVar rfl rfl (w.heap.size + 1) (by simp) ?_; change wpList _ _ _ _ _ ((w.alloc (.cells N 34)).alloc (.cells (nodeA zD none 0 0) 34)); rw [← HW.out]) | (refine wpList_row rfl 34 _ rfl w.heap.size rfl 34 N (0,0) _ HW0.out undN rfl (infS HNS.out) ?_) | fail)
 refine HCP.out.mono ?_
 rintro e w2 ⟨A2,c2,ks,rfl,hk1,hk2,hb2⟩
 obtain ⟨N2,hN2⟩ : ∃ N2,N2 = nodeA t.d A2 t.l.length c2:=⟨_,rfl⟩
 have hN2s : N2.size = 22:=by rw [hN2]; rfl
 have hN2o : N2.all (·.oneCell') = true:=by rw [hN2]; exact node_one _ _ _ _
 have h20 : w2.heap[w.heap.size]? = some (.cells N 34):=(hb2.block _ (by have:=HWS.out; omega)).trans HW0.out
 have h21 : w2.heap[w.heap.size + 1]? = some (.cells (nodeA zD none 0 0) 34):=(hb2.block _ (by have:=HWS.out; omega)).trans HW1.out
 have h30 : (w2.setRow w.heap.size N2).heap[w.heap.size]? = some (.cells N2 34):=setRow_heap _ _ _ _ _ _ h20
 have h31 : (w2.setRow w.heap.size N2).heap[w.heap.size + 1]? = some (.cells (nodeA zD none 0 0) 34):=(setRow_other _ _ _ _ (by omega)).trans h21
 rw [nodeV,← hN2]
 have H20:=Lib.hid h20
 have H30:=Lib.hid h30
 have H31:=Lib.hid h31
 have HN2:=Lib.hid hN2
 have HN2S:=Lib.hid hN2s
 have HN2O:=Lib.hid hN2o
 have HK2:=Lib.hid hk2
 have HB2:=Lib.hid hb2
 clear h20 h21 h30 h31 hN2 hN2s hN2o hk2 hb2 HCP HW0 HW1
 have efn:=eqFnil
 go_wp2_with (first | (refine wpList_store_row rfl 34 _ _ rfl w.heap.size N2 rfl rfl 34 N H20.out (infS HN2S.out) (HNS.out.trans HN2S.out.symm) HN2O.out ?_) | (refine wpList_store_row rfl 34 _ _ rfl (w.heap.size + 1) N2 rfl rfl 34 (nodeA zD none 0 0) H31.out (infS HN2S.out) HN2S.out.symm HN2O.out ?_) | (refine wpList_row rfl 34 _ rfl w.heap.size rfl 34 N2 (0,0) _ H30.out undN rfl (infS HN2S.out) ?_))
 refine bodyPost_ret (v:=.agg N2) (results_cell_row rfl _ _ (w.heap.size + 1) 34 N2 (0,0) _ rfl (setRow_heap _ _ _ _ _ _ H31.out) undN rfl (infS HN2S.out)) rfl ?_
 have hs2:=HWS.out
 refine ⟨A2,c2,ks,by rw [nodeV,HN2.out],hk1,?_,?_⟩
 · exact ((HK2.out.row _ (by omega) _).row _ (by omega) _).lo_ (by omega)
 · exact below_row (below_row (HBW.out.trans (HB2.out.mono HBW.out.size)) (Nat.le_refl _) _) (by omega) _
theorem MS.drewN {T : TypeId} {lo : Nat} {a : AT} {F : Tr → Tr} {J : Nat → World → Prop} {wr : World} {st : List (AT × Nat)} {g cap : Nat} (hJ : JOk lo J) (h : MS T lo a F J wr st g cap) (n : Nat) : MS T lo a F J (wr.drewN n) st g cap :=
 ⟨h.own,h.chain,h.root,h.nodup,h.sub,h.fresh,h.done.keep (fun _ _ hg => hg) (fun _ _ _ _ _ => rfl),h.off,h.glo,h.siz,h.all,hJ _ _ _ h.jj ⟨rfl,rfl,rfl,Nat.le_refl _,fun _ _ => rfl⟩,h.res,fun e => NodeG.keep (w:=wr) (w':=wr.drewN n) (fun _ _ hg => hg) (fun _ _ _ _ _ => rfl) _ _ _ (h.fin e)⟩
def MapPost (lo : Nat) (r : Tr) (Jn : World → Prop) (e : Ending) (w' : World) : Prop:=∃ A c,e = .returned (nodeV r.d A r.l.length c) ∧ r.d.ok ∧ SlG w' (fun b _ => lo ≤ b ∧ b < w'.heap.size) A c r.l ∧ Jn w'
def MRel (lo : Nat) (a : AT) (F : Tr → Tr) (J : Nat → World → Prop) (gk : Nat) (v : Value) (wr : World) : Prop :=
 ∃ st g cap,gk = 2 * (rem st).length - st.length ∧ v = .slice (some ⟨g,0,none⟩) st.length cap ∧ MS 117 lo a F J wr st g cap
theorem hmzown {T : TypeId} {lo : Nat} {a : AT} {F : Tr → Tr} {J : Nat → World → Prop} {wr : World} {x : AT} {k : Nat} {st : List (AT × Nat)} {g cap : Nat} (h : MS T lo a F J wr ((x,k) :: st) g cap) : (wr.setCell ⟨g,st.length * 2 + 1,none⟩ (.int .i64 ((k : Int) + 1))).ownsRow (lo + 2) T 2 (.slice (some ⟨g,0,none⟩) (st.length + 1) cap) (st.length + 1) (((x,k + 1) :: st).reverse.flatMap mc):=by
 have h1:=h.own
 rw [List.reverse_cons] at h1
 have h2:=(h1.stored (st.length * 2 + 1) (.int .i64 ((k + 1 : Nat) : Int))).1
 have h3:=mc_next st.reverse x k
 rw [List.length_reverse] at h3
 rw [h3] at h2
 rw [List.reverse_cons]
 exact h2
theorem infoSt : (Tryz.prog.info? 117).map (fun i => (i.zero,i.size,i.bytes)) = some (some (.agg #[.pointer none,.int .i64 0]),2,16):=by kernel_rfl
theorem undSts : Tryz.prog.underlying 118 = some (.slice 117):=by kernel_rfl
theorem mapF_c (t : Tr) (w : World) (A : Option Addr) (c : Nat) (hd : t.d.ok) (hs : SlAt w w.heap.size A c t.l) (hz : t.size ≤ 1048576) (fi : Nat) (caps : Array Value) (F : Tr → Tr) (J : Nat → World → Prop) (hJ : JOk w.heap.size J) (hf : FOk Tryz.prog fi caps F w.heap.size J) (hen : ∀ args w, (callFunc fi args).run Tryz.prog w = .ok (.enter fi args) w) (h0 : J 0 w) :
   Calls Tryz.prog 23 #[nodeV t.d A t.l.length c,.func (.func fi) #[] caps] w (MapPost w.heap.size (mapT F t) (J t.size)):=by
 obtain ⟨N,hN⟩ : ∃ N,N = nodeA t.d A t.l.length c:=⟨_,rfl⟩
 obtain ⟨W,hW⟩ : ∃ W,W = (w.alloc (.cells N 34)).alloc (.cells (nodeA zD none 0 0) 34):=⟨_,rfl⟩
 have hbW : Below w.heap.size w W:=by rw [hW]; exact ((Below.refl _ w).alloc (Nat.le_refl _) _).alloc (by simp) _
 have hWs : W.heap.size = w.heap.size + 2:=by rw [hW]; simp
 have hcp:=copied_c t W A c hd ((hs.below hbW).more (by omega)) hz
 have hW0 : W.heap[w.heap.size]? = some (.cells N 34):=by rw [hW,heapOld _ _ _ (by simp)]; exact World.alloc_heap_new w _
 have hW1 : W.heap[w.heap.size + 1]? = some (.cells (nodeA zD none 0 0) 34):=by
   rw [hW]; have:=World.alloc_heap_new (w.alloc (.cells N 34)) (.cells (nodeA zD none 0 0) 34); rwa [World.size_alloc] at this
 have hNs : N.size = 22:=by rw [hN]; rfl
 rw [nodeV,← hN] at hcp ⊢
 have HCP:=Lib.hid hcp
 have HW:=Lib.hid hW
 have HW0:=Lib.hid hW0
 have HW1:=Lib.hid hW1
 have HWS:=Lib.hid hWs
 have HNS:=Lib.hid hNs
 have HBW:=Lib.hid hbW
 have HJ:=Lib.hid hJ
 have HF:=Lib.hid hf
 have HJ0:=Lib.hid h0
 have HEN:=Lib.hid hen
 have HD:=Lib.hid hd
 obtain ⟨ti,hti,hz0,hz1,hz2⟩:=info_parts infoSt
 clear hcp hW hW0 hW1 hWs hN hNs hbW hJ hf h0 hd hs hen
 go_enter Tryz.func23,Tryz.ntmps23
 go_wp2_with (first | (refine wpList_nodeVar rfl rfl (w.heap.size + 1) (by simp) ?_; change wpList _ _ _ _ _ ((w.alloc (.cells N 34)).alloc (.cells (nodeA zD none 0 0) 34)); rw [← HW.out]) | (refine wpList_row rfl 34 _ rfl w.heap.size rfl 34 N (0,0) _ HW0.out undN rfl (infS HNS.out) ?_) | fail)
 refine HCP.out.mono ?_
 rintro e w2 ⟨A2,c2,ks,rfl,hk1,hk2,hb2⟩
 obtain ⟨N2,hN2⟩ : ∃ N2,N2 = nodeA t.d A2 t.l.length c2:=⟨_,rfl⟩
 have hN2s : N2.size = 22:=by rw [hN2]; rfl
 have hN2o : N2.all (·.oneCell') = true:=by rw [hN2]; exact node_one _ _ _ _
 have h20 : w2.heap[w.heap.size]? = some (.cells N 34):=(hb2.block _ (by have:=HWS.out; omega)).trans HW0.out
 have h21 : w2.heap[w.heap.size + 1]? = some (.cells (nodeA zD none 0 0) 34):=(hb2.block _ (by have:=HWS.out; omega)).trans HW1.out
 have h30 : (w2.setRow w.heap.size N2).heap[w.heap.size]? = some (.cells N2 34):=setRow_heap _ _ _ _ _ _ h20
 have h31 : (w2.setRow w.heap.size N2).heap[w.heap.size + 1]? = some (.cells (nodeA zD none 0 0) 34):=(setRow_other _ _ _ _ (by omega)).trans h21
 rw [nodeV,← hN2]
 have H20:=Lib.hid h20
 have H30:=Lib.hid h30
 have H31:=Lib.hid h31
 have HN2:=Lib.hid hN2
 have HN2S:=Lib.hid hN2s
 have HN2O:=Lib.hid hN2o
 have HK1:=Lib.hid hk1
 have HK2:=Lib.hid hk2
 have HB2:=Lib.hid hb2
 clear h20 h21 h30 h31 hN2 hN2s hN2o hk1 hk2 hb2 HCP HW0 HW1
 have efn:=fun w => eqFfun w fi caps
 go_wp2_with (first | (refine wpList_store_row rfl 34 _ _ rfl w.heap.size N2 rfl rfl 34 N H20.out (infS HN2S.out) (HNS.out.trans HN2S.out.symm) HN2O.out ?_) | fail)
 clear efn
 obtain ⟨a,ha⟩ : ∃ a,a = AT.mk w.heap.size 0 t.d ks:=⟨_,rfl⟩
 have htr : a.tr = t:=by rw [ha,AT.tr_mk,HK1.out,← Tr.eta]
 have HA:=Lib.hid ha
 have HTR:=Lib.hid htr
 clear ha htr
 go_loopg [5] (2 * t.size - 1) (fun gk v wr => MRel w.heap.size a F J gk v wr)
 case atStart =>
   have hst:=MS.start (T:=117) (F:=F) HJ.out HK1.out (by rw [HWS.out] at HK2; exact HK2.out) HD.out H20.out (by have:=H31.out; rwa [setRow_other _ _ _ _ (by omega)] at this) rfl (by have:=HB2.out.size; have:=HWS.out; omega) (HJ.out _ _ _ HJ0.out (HBW.out.trans (HB2.out.mono HBW.out.size)))
   rw [← HA.out,← HN2.out] at hst
   refine ⟨[(a,0)],w2.heap.size,1,?_,rfl,hst⟩
   have e : rem [(a,0)] = a.post:=by rw [HA.out]; simp only [rem,List.drop_zero,AT.l,AT.post_mk]
   rw [e,AT.post_len,HTR.out]
   simp only [List.length_cons,List.length_nil,Nat.zero_add]
 case round =>
   obtain ⟨st,g,cap,rfl,rfl,hms⟩:=hrel
   cases st with
   | nil =>
     obtain ⟨hg1,hg2,A',c',hg3,hg4⟩:=(hms.fin rfl).open_
     rw [HTR.out] at hg2 hg3 hg4
     have hab : a.b = w.heap.size ∧ a.o = 0:=by rw [HA.out]; exact ⟨rfl,rfl⟩
     rw [hab.1,hab.2] at hg3
     obtain ⟨cs,e1,e2,e3⟩:=hg3.range (fun _ _ => rfl)
     have hinf:=infN
     rw [← e2] at hinf
     have hcs : cs.toArray.size = 22:=by simp [e2]
     have hone : cs.toArray.all (·.oneCell') = true:=by rw [e1]; exact node_one _ _ _ _
     obtain ⟨Z,hZ1,hZ2⟩:=hms.res
     have HRG:=Lib.hid e3
     have HIN:=Lib.hid hinf
     have HCS:=Lib.hid hcs
     have HON:=Lib.hid hone
     have HZ1:=Lib.hid hZ1
     have HZ2:=Lib.hid hZ2
     have HMS:=Lib.hid hms
     have HG2:=Lib.hid hg2
     have HG4:=Lib.hid hg4
     have HE1:=Lib.hid e1
     clear hms hg1 hg2 hg3 hg4 hab e1 e2 e3 hinf hcs hone hZ1 hZ2
     simp only [List.length_nil]
     go_wp2_with (first | (refine wpList_mid rfl 34 _ rfl w.heap.size 0 rfl cs _ HRG.out undN rfl HIN.out ?_) | (refine wpList_store_row rfl 34 _ _ rfl (w.heap.size + 1) cs.toArray rfl rfl 34 Z HZ2.out (infS HCS.out) (HZ1.out.trans HCS.out.symm) HON.out ?_))
     refine bodyPost_ret (v:=.agg cs.toArray) (results_cell_row rfl _ _ (w.heap.size + 1) 34 cs.toArray (0,0) _ rfl (setRow_heap _ _ _ _ _ _ HZ2.out) undN rfl (infS HCS.out)) rfl ?_
     refine ⟨A',c',by rw [nodeV,← HE1.out],HG2.out,?_,?_⟩
     · refine HG4.out.keep (fun b o hg => ?_) (fun b o hg j hj => ?_)
       · obtain ⟨y,hy,rfl,rfl⟩:=hg.blocks
         have:=HMS.out.off y hy
         exact ⟨this.2.2.1,by simpa using this.2.2.2.1⟩
       · obtain ⟨y,hy,rfl,rfl⟩:=hg.blocks
         exact World.cell?_of_block (a:=⟨y.b,y.o + j,none⟩) (setRow_other _ _ _ _ (HMS.out.off y hy).2.1)
     · have hj:=HMS.out.jj
       simp only [rem,List.length_nil,Nat.sub_zero,HTR.out] at hj
       exact HJ.out _ _ _ hj (below_row (Below.refl _ _) (by omega) _)
   | cons xk st =>
     obtain ⟨x,k⟩:=xk
     have hxr : x ∈ rem ((x,k) :: st):=by simp [rem]
     obtain ⟨f1,f2,f3,f4,f5,fA,fc,f6,f7,f8,f9⟩:=hms.fresh x hxr
     have hown:=hms.own
     rw [List.reverse_cons] at hown
     have hc0 : wr.cell? ⟨g,st.length * 2,none⟩ = some (.pointer (some ⟨x.b,x.o,none⟩)):=by
       have:=own_cell hown rfl _ _ (mc_top st.reverse (x,k)).1
       rwa [List.length_reverse] at this
     have hc1 : wr.cell? ⟨g,st.length * 2 + 1,none⟩ = some (.int .i64 k):=by
       have:=own_cell hown rfl _ _ (mc_top st.reverse (x,k)).2
       rwa [List.length_reverse] at this
     have h21 : wr.cell? ⟨x.b,x.o + 21,none⟩ = some (.slice fA x.l.length fc):=f6 21 (by decide)
     have hlm : st.length + 1 ≤ 1048576:=by
       have h1:=rem_len ((x,k) :: st)
       have h2:=hms.all
       rw [HTR.out] at h2
       simp only [List.length_cons] at h1
       omega
     have hnl : x.l.length ≤ 1048576:=by
       have h1:=AT.len_size x
       have h2:=AT.sub_size a x (hms.sub x hxr)
       rw [HTR.out] at h2
       omega
     obtain ⟨n,hn⟩ : ∃ n,n = x.l.length:=⟨_,rfl⟩
     rw [← hn] at h21 hnl
     have HN':=Lib.hid hn
     have HMS:=Lib.hid hms
     have hcap : st.length + 1 ≤ cap:=by
       rcases hms.own.2 with ⟨h1,_⟩ | ⟨_,cap',_,hv,_,_,h4,_⟩
       · cases h1
       · simp only [Value.slice.injEq] at hv
         obtain ⟨-,-,rfl⟩:=hv
         simpa using h4
     have hlm' : (st.length : Int) + 1 ≤ 1048576:=by omega
     have hgl : g < wr.heap.size:=by
       obtain ⟨-,h⟩:=hms.own.lt g rfl
       exact h
     simp only [List.length_cons]
     have HF9:=Lib.hid f9
     have hfc : n ≤ fc:=by rw [hn]; exact f7
     have hgfr : wr.frozen? ⟨g,st.length * 2 + 1,none⟩ = false:=hms.own.frozenAt _
     clear hms hxr f1 f3 f4 f5 f6 f7 f9 hown hn
     go_wp2
     by_cases hkn : k < n
     · have hki : (k : Int) < (n : Int):=by omega
       have hki0 : (0 : Int) ≤ (k : Int):=by omega
       have hkb : k ≤ 1048576:=by omega
       have hkx : k < x.l.length:=by rw [← HN'.out]; exact hkn
       obtain ⟨b',hA,hads⟩ : ∃ b',fA = some ⟨b',0,none⟩ ∧ ∀ i (h : i < x.l.length),x.l[i].ad = (b',i * 22):=by
         rcases HF9.out with h | ⟨b',h1,h2⟩
         · rw [h] at hkx; simp at hkx
         · exact ⟨b',h1,h2⟩
       subst hA
       have hyad : x.l[k].b = b' ∧ x.l[k].o = k * 22:=by have:=hads k hkx; simpa [AT.ad] using this
       have HY:=Lib.hid hyad
       clear hads hyad
       go_quiet (fail)
       go_wp2
       go_quiet (fail)
       go_upto_region 10 with (fail)
       generalize hwz : wr.drewN _ = wz
       have hmz : MS 117 w.heap.size a F J wz ((x,k) :: st) g cap:=by rw [← hwz]; exact HMS.out.drewN HJ.out _
       have hzs : wz.heap.size = wr.heap.size:=by rw [← hwz]; rfl
       have HMZ:=Lib.hid hmz
       have HZS:=Lib.hid hzs
       clear hmz hzs hwz hc0 hc1 h21 hgfr
       have hst:=hmzown HMZ.out
       have hnew : ∀ (j : Nat) (u : Value),([.pointer (some ⟨b',k * 22,none⟩),.int .i64 0] : List Value)[j]? = some u → ((wz.setCell ⟨g,st.length * 2 + 1,none⟩ (.int .i64 ((k : Int) + 1))).alloc (.cells #[.pointer (some ⟨b',k * 22,none⟩),.int .i64 0] 117)).cell? ((⟨wz.heap.size,0,none⟩ : Addr).add j) = some u:=fun j u hu => by
         have hb : ((wz.setCell ⟨g,st.length * 2 + 1,none⟩ (.int .i64 ((k : Int) + 1))).alloc (.cells #[.pointer (some ⟨b',k * 22,none⟩),.int .i64 0] 117)).heap[wz.heap.size]? = some (.cells #[.pointer (some ⟨b',k * 22,none⟩),.int .i64 0] 117):=by
           have:=World.alloc_heap_new (wz.setCell ⟨g,st.length * 2 + 1,none⟩ (.int .i64 ((k : Int) + 1))) (.cells #[.pointer (some ⟨b',k * 22,none⟩),.int .i64 0] 117)
           rwa [size_setCell] at this
         exact World.news_of_block hb j u hu
       have hone : ∀ u ∈ ([.pointer (some ⟨b',k * 22,none⟩),.int .i64 0] : List Value),u.oneCell' = true:=by simp [Value.oneCell']
       have hown2 : ((wz.setCell ⟨g,st.length * 2 + 1,none⟩ (.int .i64 ((k : Int) + 1))).alloc (.cells #[.pointer (some ⟨b',k * 22,none⟩),.int .i64 0] 117)).ownsRow (w.heap.size + 2) 117 2 (.slice (some ⟨g,0,none⟩) (st.length + 1) cap) (st.length + 1) (((x,k + 1) :: st).reverse.flatMap mc):=hst.alloc _
       have HNE:=Lib.hid hnew
       have HON:=Lib.hid hone
       have HOW:=Lib.hid hown2
       clear hst hnew hone hown2
       go_wp2_with (at_builtin; refine wpList_append_lies _ rfl _ _ 118 rfl (w.heap.size + 2) 117 ti _ 2 16 undSts hti hz0 hz1 hz2 rfl (by decide) _ (st.length + 1) _ rfl HOW.out ⟨wz.heap.size,0,none⟩ 1 1 [.pointer (some ⟨b',k * 22,none⟩),.int .i64 0] rfl rfl HNE.out HON.out (by omega) (by unfold maxLen; omega) (by omega) (by have:=HMZ.out.siz; simp; omega) (wz.heap.size + 1) (by simp) ?_; intro g2 cap2 w3 hown3 hgrow hat hlt3; have HO3:=Lib.hid hown3; have HG3:=Lib.hid hgrow; have HAT:=Lib.hid hat; clear hown3 hgrow hat)
       have hrp:=rem_push (st:=st) hkx
       go_roundg (2 * (rem ((x.l[k],0) :: (x,k + 1) :: st)).length - ((x.l[k],0) :: (x,k + 1) :: st).length)
       case measure =>
         have h1:=rem_len ((x.l[k],0) :: (x,k + 1) :: st)
         simp only [List.length_cons] at h1 ⊢
         rw [hrp] at h1 ⊢
         omega
       case rel =>
         refine ⟨(x.l[k],0) :: (x,k + 1) :: st,g2,cap2,rfl,rfl,?_⟩
         have ek : (Value.int .i64 ((k : Int) + 1)) = .int .i64 ((k + 1 : Nat) : Int):=by go_num
         have hg3:=HG3.out
         rw [ek] at hg3
         refine MS.push HJ.out HMZ.out hkx hg3 HAT.out ?_
         have e2 : mc (x.l[k],0) = [.pointer (some ⟨b',k * 22,none⟩),.int .i64 0]:=by simp only [mc,HY.out.1,HY.out.2]; rfl
         rw [e2]; exact HO3.out
     · have hki : ¬ (k : Int) < (n : Int):=by omega
       have hki2 : decide ((k : Int) < (n : Int)) = false:=by simpa using hki
       go_quiet (fail)
       go_wp2
       generalize hwz : wr.drewN _ = wz
       have hmz : MS 117 w.heap.size a F J wz.drew ((x,k) :: st) g cap:=by rw [← hwz]; exact (HMS.out.drewN HJ.out _).drewN HJ.out 1
       have hcz : wz.drew.cell? ⟨g,st.length * 2,none⟩ = some (.pointer (some ⟨x.b,x.o,none⟩)):=by rw [← hwz]; exact hc0
       clear hwz hc0 hc1 h21 hgfr hki hki2
       obtain ⟨cs,e2,e3,hcal⟩:=MS.prep HJ.out HF.out hmz (by rw [← HN'.out]; omega) (by rw [← HN'.out]; exact hnl) _ hcz
       have hinf:=infN
       rw [← e2] at hinf
       have HCA:=Lib.hid hcal
       clear hcal e2
       refine wp_region_held_drew (S:=fun w' => w'.cell? ⟨g,st.length * 2,none⟩ = some (.pointer (some ⟨x.b,x.o,none⟩))) (by kernel_rfl) hcz (fun hHeld => ?_)
       refine wpAnyH_take (i := 0) (oi := { dst := some 60, op := Op.move (Operand.tmp 6), type := 119, pos := "tree.go:148", after := #[], guard := none }) (v := ?_) rfl (by kernel_rfl) (by kernel_rfl) (by kernel_rfl) (fun _ _ _ h => h) (Or.inl ⟨by rfl, ?_⟩) (by assumption) ?_
       rotate_left
       · intro w hSw
         (try dsimp only at hSw)
         go_simp
         try with_reducible rfl
       simp only [Act.put,List.setIfInBounds_toArray,List.set_cons_zero,List.set_cons_succ]
       refine wpAnyH_take (i := 1) (oi := { dst := some 61, op := Op.nilCheck (Operand.tmp 60), type := 0, pos := "tree.go:148", after := #[{ on := 0, ground := Ground.data }], guard := none }) (v := ?_) rfl (by kernel_rfl) (by kernel_rfl) (by kernel_rfl) (fun _ _ _ h => h) (Or.inl ⟨by rfl, ?_⟩) (by assumption) ?_
       rotate_left
       · intro w hSw
         (try dsimp only at hSw)
         go_simp
         try with_reducible rfl
       simp only [Act.put,List.setIfInBounds_toArray,List.set_cons_zero,List.set_cons_succ]
       refine wpAnyH_take (i := 2) (oi := { dst := some 62, op := Op.fieldAddr 117 (Operand.tmp 61) 0, type := 0, pos := "tree.go:148", after := #[{ on := 1, ground := Ground.data }], guard := none }) (v := ?_) rfl (by kernel_rfl) (by kernel_rfl) (by kernel_rfl) (fun _ _ _ h => h) (Or.inl ⟨by rfl, ?_⟩) (by assumption) ?_
       rotate_left
       · intro w hSw
         (try dsimp only at hSw)
         go_simp
         try with_reducible rfl
       simp only [Act.put,List.setIfInBounds_toArray,List.set_cons_zero,List.set_cons_succ]
       refine wpAnyH_take (i := 3) (oi := { dst := some 63, op := Op.load 115 (Operand.tmp 62), type := 115, pos := "tree.go:148", after := #[{ on := 2, ground := Ground.data }], guard := none }) (v := ?_) rfl (by kernel_rfl) (by kernel_rfl) (by kernel_rfl) (fun _ _ _ h => h) (Or.inl ⟨by rfl, ?_⟩) (by assumption) ?_
       rotate_left
       · intro w hSw
         (try dsimp only at hSw)
         go_simp
         try with_reducible rfl
       simp only [Act.put,List.setIfInBounds_toArray,List.set_cons_zero,List.set_cons_succ]
       refine wpAnyH_take (i := 4) (oi := { dst := some 64, op := Op.move (Operand.tmp 1), type := 86, pos := "tree.go:148", after := #[], guard := none }) (v := ?_) rfl (by kernel_rfl) (by kernel_rfl) (by kernel_rfl) (fun _ _ _ h => h) (Or.inl ⟨by rfl, ?_⟩) (by assumption) ?_
       rotate_left
       · intro w hSw
         (try dsimp only at hSw)
         go_simp
         try with_reducible rfl
       simp only [Act.put,List.setIfInBounds_toArray,List.set_cons_zero,List.set_cons_succ]
       refine wpAnyH_take (i := 5) (oi := { dst := some 65, op := Op.move (Operand.tmp 6), type := 119, pos := "tree.go:148", after := #[], guard := none }) (v := ?_) rfl (by kernel_rfl) (by kernel_rfl) (by kernel_rfl) (fun _ _ _ h => h) (Or.inl ⟨by rfl, ?_⟩) (by assumption) ?_
       rotate_left
       · intro w hSw
         (try dsimp only at hSw)
         go_simp
         try with_reducible rfl
       simp only [Act.put,List.setIfInBounds_toArray,List.set_cons_zero,List.set_cons_succ]
       refine wpAnyH_take (i := 6) (oi := { dst := some 66, op := Op.nilCheck (Operand.tmp 65), type := 0, pos := "tree.go:148", after := #[{ on := 5, ground := Ground.data }], guard := none }) (v := ?_) rfl (by kernel_rfl) (by kernel_rfl) (by kernel_rfl) (fun _ _ _ h => h) (Or.inl ⟨by rfl, ?_⟩) (by assumption) ?_
       rotate_left
       · intro w hSw
         (try dsimp only at hSw)
         go_simp
         try with_reducible rfl
       simp only [Act.put,List.setIfInBounds_toArray,List.set_cons_zero,List.set_cons_succ]
       refine wpAnyH_take (i := 7) (oi := { dst := some 67, op := Op.fieldAddr 117 (Operand.tmp 66) 0, type := 0, pos := "tree.go:148", after := #[{ on := 6, ground := Ground.data }], guard := none }) (v := ?_) rfl (by kernel_rfl) (by kernel_rfl) (by kernel_rfl) (fun _ _ _ h => h) (Or.inl ⟨by rfl, ?_⟩) (by assumption) ?_
       rotate_left
       · intro w hSw
         (try dsimp only at hSw)
         go_simp
         try with_reducible rfl
       simp only [Act.put,List.setIfInBounds_toArray,List.set_cons_zero,List.set_cons_succ]
       refine wpAnyH_take (i := 8) (oi := { dst := some 68, op := Op.load 115 (Operand.tmp 67), type := 115, pos := "tree.go:148", after := #[{ on := 7, ground := Ground.data }], guard := none }) (v := ?_) rfl (by kernel_rfl) (by kernel_rfl) (by kernel_rfl) (fun _ _ _ h => h) (Or.inl ⟨by rfl, ?_⟩) (by assumption) ?_
       rotate_left
       · intro w hSw
         (try dsimp only at hSw)
         go_simp
         try with_reducible rfl
       simp only [Act.put,List.setIfInBounds_toArray,List.set_cons_zero,List.set_cons_succ]
       refine wpAnyH_take (i := 9) (oi := { dst := some 69, op := Op.nilCheck (Operand.tmp 68), type := 0, pos := "tree.go:148", after := #[{ on := 8, ground := Ground.data }], guard := none }) (v := ?_) rfl (by kernel_rfl) (by kernel_rfl) (by kernel_rfl) (fun _ _ _ h => h) (Or.inl ⟨by rfl, ?_⟩) (by assumption) ?_
       rotate_left
       · intro w hSw
         (try dsimp only at hSw)
         go_simp
         try with_reducible rfl
       simp only [Act.put,List.setIfInBounds_toArray,List.set_cons_zero,List.set_cons_succ]
       refine wpAnyH_loadRow (i := 10) (o := { dst := some 70, op := Op.load 34 (Operand.tmp 69), type := 34, pos := "tree.go:148", after := #[{ on := 9, ground := Ground.data }], guard := none }) (by kernel_rfl) rfl rfl 34 (Operand.tmp 69) rfl x.b x.o rfl cs _ e3 undN rfl hinf hcz (fun hHeld => ?_)
       simp only [Act.put,List.setIfInBounds_toArray,List.set_cons_zero,List.set_cons_succ]
       refine wpAnyH_ready (rs:=[11]) (by kernel_rfl) (by simp) ?_
       refine AllReadyH.cons (o := { dst := some 71, op := Op.call { callee := Callee.value (Operand.tmp 64), args := #[Operand.tmp 70], argTypes := #[34] }, type := 34, pos := "tree.go:148", after := #[{ on := 4, ground := Ground.data }, { on := 10, ground := Ground.data }], guard := none }) rfl (fun K hK => ?_) AllReadyH.nil
       have hen:=HEN.out
       go_simp
       clear hen
       refine HCA.out.mono ?_
       rintro e w3 ⟨cells,rfl,hz3,ho3,ht3,hs3,hs4,hm3⟩
       try go_simp
       refine hK.out _ _ hs3 (fun hHeld => ?_)
       clear hK K
       try simp only [sX]
       refine wpAnyH_take (i := 12) (oi := { dst := some 72, op := Op.nilCheck (Operand.tmp 63), type := 0, pos := "tree.go:148", after := #[{ on := 3, ground := Ground.data }, { on := 0, ground := Ground.phase }, { on := 1, ground := Ground.phase }, { on := 2, ground := Ground.phase }, { on := 3, ground := Ground.phase }, { on := 4, ground := Ground.phase }, { on := 5, ground := Ground.phase }, { on := 6, ground := Ground.phase }, { on := 7, ground := Ground.phase }, { on := 8, ground := Ground.phase }, { on := 9, ground := Ground.phase }, { on := 10, ground := Ground.phase }, { on := 11, ground := Ground.phase }], guard := none }) (v := ?_) rfl (by kernel_rfl) (by kernel_rfl) (by kernel_rfl) (fun _ _ _ h => h) (Or.inl ⟨by rfl, ?_⟩) (by assumption) ?_
       rotate_left
       · intro w hSw
         (try dsimp only at hSw)
         go_simp
         try with_reducible rfl
       simp only [Act.put,List.setIfInBounds_toArray,List.set_cons_zero,List.set_cons_succ]
       have HM3:=Lib.hid hm3
       have hinf3 : (Tryz.prog.info? 34).map (·.size) = some cells.size:=infS hz3
       refine wpAnyH_storeRow (i := 13) (o := { dst := none, op := Op.store 34 (Operand.tmp 72) (Operand.tmp 71), type := 0, pos := "tree.go:148", after := #[{ on := 12, ground := Ground.data }, { on := 11, ground := Ground.data }, { on := 11, ground := Ground.chain }, { on := 0, ground := Ground.phase }, { on := 1, ground := Ground.phase }, { on := 2, ground := Ground.phase }, { on := 3, ground := Ground.phase }, { on := 4, ground := Ground.phase }, { on := 5, ground := Ground.phase }, { on := 6, ground := Ground.phase }, { on := 7, ground := Ground.phase }, { on := 8, ground := Ground.phase }, { on := 9, ground := Ground.phase }, { on := 10, ground := Ground.phase }, { on := 11, ground := Ground.phase }], guard := none }) (by kernel_rfl) rfl rfl 34 (Operand.tmp 72) (Operand.tmp 71) rfl x.b x.o cells rfl rfl (by rw [hz3]; exact ht3) hinf3 ho3 hs4 (fun hHeld => ?_)
       simp only [Act.put]
       refine wpAnyH_done (by kernel_rfl) ?_ _
       clear hm3 hinf3 hs3 hs4 ht3 hz3 ho3
       go_wp2
       go_roundg (2 * (rem st).length - st.length)
       case measure =>
         have h1:=rem_len st
         rw [rem_pop (by rw [← HN'.out]; omega)]
         simp only [List.length_cons]
         omega
       case rel => exact ⟨st,g,cap,rfl,rfl,HM3.out⟩
end Go.Proofs.YtbkmnboicihchaaGreat
namespace Go.Proofs.YtbkmnboicihchaaGreat
set_option linter.unusedSimpArgs false
set_option linter.unusedVariables false
structure Ik where
 a : Int
 n : Int
deriving DecidableEq
def Ik.z (x : Ik) : Bool:=decide (x.a = 0 ∧ x.n = 0)
def placeL : List Ik → Ik → Option Nat
 | [],_ => none
 | x :: l,y => if x = y then some 0 else (placeL l y).map (· + 1)
theorem placeL_some : ∀ {l : List Ik} {y : Ik} {k : Nat},placeL l y = some k → ∃ h : k < l.length,l[k] = y
 | [],_,_,h => by cases h
 | x :: l,y,k,h => by
   unfold placeL at h
   by_cases e : x = y
   · rw [if_pos e] at h
     obtain rfl:=Option.some.inj h
     exact ⟨by simp,e⟩
   · rw [if_neg e] at h
     cases hp : placeL l y with
     | none => rw [hp] at h; cases h
     | some j =>
       rw [hp] at h
       obtain rfl:=Option.some.inj h
       obtain ⟨h1,h2⟩:=placeL_some hp
       exact ⟨by simp; omega,by simpa using h2⟩
theorem placeL_at : ∀ {l : List Ik} (hn : l.Nodup) {k : Nat} (h : k < l.length),placeL l l[k] = some k
 | x :: l,hn,0,h => by unfold placeL; rw [if_pos (by simp)]
 | x :: l,hn,k + 1,h => by
   have h1 : k < l.length:=by simpa using h
   have hne : x ≠ l[k]:=fun e => (List.nodup_cons.1 hn).1 (e ▸ List.getElem_mem h1)
   unfold placeL
   rw [show (x :: l)[k + 1] = l[k] from rfl,if_neg hne,placeL_at (List.nodup_cons.1 hn).2 h1]
   rfl
theorem placeL_none : ∀ {l : List Ik} {y : Ik},placeL l y = none ↔ y ∉ l
 | [],_ => by simp [placeL]
 | x :: l,y => by
   unfold placeL
   by_cases e : x = y
   · simp [e]
   · rw [if_neg e,Option.map_eq_none_iff,placeL_none]
     simp [Ne.symm e]
def goneI (l : List Ik) (d : Int) (y : Ik) : Option Ik :=
 match placeL l y with
 | none => some y
 | some p => if 0 ≤ (p : Int) + d then l[((p : Int) + d).toNat]? else none
theorem goneI_some {l : List Ik} {d : Int} {y y' : Ik} (h : goneI l d y = some y') : (y ∉ l ∧ y' = y) ∨ ∃ p q : Nat,∃ hp : p < l.length,∃ hq : q < l.length,l[p] = y ∧ (p : Int) + d = q ∧ l[q] = y':=by
 unfold goneI at h
 cases hp : placeL l y with
 | none =>
   rw [hp] at h
   exact .inl ⟨placeL_none.1 hp,(Option.some.inj h).symm⟩
 | some p =>
   rw [hp] at h
   dsimp only at h
   obtain ⟨h1,h2⟩:=placeL_some hp
   by_cases c : 0 ≤ (p : Int) + d
   · rw [if_pos c] at h
     obtain ⟨h3,h4⟩:=List.getElem?_eq_some_iff.1 h
     exact .inr ⟨p,_,h1,h3,h2,by omega,h4⟩
   · rw [if_neg c] at h; cases h
theorem goneI_out {l : List Ik} {d : Int} {y : Ik} (h : y ∉ l) : goneI l d y = some y:=by
 unfold goneI
 rw [placeL_none.2 h]
def goneX (l : List Ik) (d : Int) (fix : Bool) (y : Ik) : Option Ik:=if fix then some y else goneI l d y
def Cn.row' (c : Cn) : Ik:=⟨c.ra,c.rn⟩
def Cn.col' (c : Cn) : Ik:=⟨c.ca,c.cn⟩
def Cn.put' (c : Cn) (r k : Ik) : Cn:={ c with ra:=r.a,rn:=r.n,ca:=k.a,cn:=k.n }
structure Wy where
 rows : List Ik
 cols : List Ik
 down : Int
 right : Int
def Wy.back (w : Wy) : Wy:=⟨w.rows,w.cols,-w.down,-w.right⟩
def Wy.on (w : Wy) (d r : Int) : Wy:=⟨w.rows,w.cols,d,r⟩
def goneC (w : Wy) (c : Cn) : Option Cn :=
 match goneX w.rows w.down c.fr c.row',goneX w.cols w.right c.fc c.col' with
 | some r,some k => some (c.put' r k)
 | _,_ => none
theorem goneC_some {w : Wy} {c c' : Cn} (h : goneC w c = some c') : ∃ r k,goneX w.rows w.down c.fr c.row' = some r ∧ goneX w.cols w.right c.fc c.col' = some k ∧ c' = c.put' r k:=by
 unfold goneC at h
 cases h1 : goneX w.rows w.down c.fr c.row' with
 | none => rw [h1] at h; cases h
 | some r =>
   cases h2 : goneX w.cols w.right c.fc c.col' with
   | none => rw [h1,h2] at h; cases h
   | some k => rw [h1,h2] at h; exact ⟨r,k,rfl,rfl,(Option.some.inj h).symm⟩
def lostND : ND:=⟨0,⟨4,0,0,⟨#[]⟩,false,3⟩,⟨#[]⟩,⟨0,0,0,0,false,false⟩,⟨0,0,0,0,false,false⟩,0⟩
def goneD (w : Wy) (d : ND) : Option ND :=
 if d.kind = 1 ∨ d.kind = 3 then (goneC w d.a).map fun a => { d with a:=a }
 else if d.kind = 2 then match goneC w d.a,goneC w d.b with | some a,some b => some { d with a:=a,b:=b } | _,_ => none
 else some d
mutual
def goneT (w : Wy) : Tr → Tr
 | .mk d l => match goneD w d with | none => .mk lostND [] | some d' => .mk d' (goneTs w l)
def goneTs (w : Wy) : List Tr → List Tr
 | [] => []
 | t :: ts => goneT w t :: goneTs w ts
end
theorem goneTs_map (w : Wy) : ∀ l : List Tr,goneTs w l = l.map (goneT w)
 | [] => by simp [goneTs]
 | t :: ts => by simp [goneTs,goneTs_map w ts]
theorem goneT_mk (w : Wy) (d : ND) (l : List Tr) : goneT w (.mk d l) = match goneD w d with | none => .mk lostND [] | some d' => .mk d' (l.map (goneT w)):=by
 unfold goneT
 rw [goneTs_map]
mutual
def stayT (w : Wy) : Tr → Prop
 | .mk d l => goneD w d ≠ none ∧ stayTs w l
def stayTs (w : Wy) : List Tr → Prop
 | [] => True
 | t :: ts => stayT w t ∧ stayTs w ts
end
mutual
def litN : Tr → Nat
 | .mk d l => (if d.kind = 0 then 1 else 0) + litNs l
def litNs : List Tr → Nat
 | [] => 0
 | t :: ts => litN t + litNs ts
end
mutual
def leafT : Tr → Prop
 | .mk d l => (d.kind = 1 ∨ d.kind = 2 ∨ d.kind = 3 → l = []) ∧ leafTs l
def leafTs : List Tr → Prop
 | [] => True
 | t :: ts => leafT t ∧ leafTs ts
end
end Go.Proofs.YtbkmnboicihchaaGreat
namespace Go.Proofs.YtbkmnboicihchaaGreat
set_option linter.unusedSimpArgs false
set_option linter.unusedVariables false
abbrev IL:=List (Ik × Bool)
def IL.ids (L : IL) : List Ik:=L.map (·.1)
def IL.alive (L : IL) : List Ik:=(L.filter (·.2)).map (·.1)
theorem IL.alive_append (L M : IL) : IL.alive (L ++ M) = IL.alive L ++ IL.alive M:=by simp [IL.alive]
theorem IL.alive_take_succ {L : IL} {i : Nat} (h : i < L.length) : IL.alive (L.take (i + 1)) = IL.alive (L.take i) ++ if L[i].2 then [L[i].1] else []:=by
 rw [List.take_succ_eq_append_getElem h,IL.alive_append]
 congr 1
 unfold IL.alive
 cases hb : L[i].2 <;> simp [hb]
theorem IL.alive_take_len (L : IL) (i : Nat) : (IL.alive (L.take i)).length ≤ i:=by
 unfold IL.alive
 rw [List.length_map]
 exact Nat.le_trans (List.length_filter_le _ _) (by rw [List.length_take]; omega)
theorem IL.alive_len (L : IL) : L.alive.length ≤ L.length:=by
 unfold IL.alive
 rw [List.length_map]
 exact List.length_filter_le _ _
theorem IL.alive_mem {L : IL} {x : Ik} : x ∈ L.alive ↔ (x,true) ∈ L:=by
 unfold IL.alive
 simp only [List.mem_map,List.mem_filter]
 constructor
 · rintro ⟨⟨y,b⟩,⟨h1,h2⟩,rfl⟩
   dsimp only at h2
   subst h2
   exact h1
 · exact fun h => ⟨(x,true),⟨h,rfl⟩,rfl⟩
theorem IL.alive_ids {L : IL} {x : Ik} (h : x ∈ L.alive) : x ∈ L.ids:=List.mem_map.2 ⟨_,IL.alive_mem.1 h,rfl⟩
theorem IL.alive_nodup {L : IL} (hn : L.ids.Nodup) : L.alive.Nodup:=by
 unfold IL.alive
 have hs : ((L.filter (·.2)).map (·.1)).Sublist (L.map (·.1)):=List.Sublist.map _ List.filter_sublist
 exact hs.nodup hn
theorem IL.place_out {L : IL} {x : Ik} (h : x ∉ L.ids) : placeL L.alive x = none:=placeL_none.2 (fun h' => h (IL.alive_ids h'))
theorem IL.ids_inj {L : IL} (hn : L.ids.Nodup) {i j : Nat} (hi : i < L.length) (hj : j < L.length) (h : L[i].1 = L[j].1) : i = j:=by
 have h1 : L.ids[i]'(by simpa [IL.ids] using hi) = L.ids[j]'(by simpa [IL.ids] using hj):=by simpa [IL.ids] using h
 exact (List.getElem_inj hn).1 h1
theorem IL.place_dead {L : IL} (hn : L.ids.Nodup) {i : Nat} (hi : i < L.length) (hl : L[i].2 = false) : placeL L.alive L[i].1 = none:=by
 refine placeL_none.2 (fun h => ?_)
 obtain ⟨j,hj,e⟩:=List.mem_iff_getElem.1 (IL.alive_mem.1 h)
 have:=IL.ids_inj hn hj hi (by rw [e])
 subst this
 rw [e] at hl
 cases hl
theorem IL.place_live {L : IL} (hn : L.ids.Nodup) {i : Nat} (hi : i < L.length) (hl : L[i].2 = true) : placeL L.alive L[i].1 = some (IL.alive (L.take i)).length:=by
 have h1 : L.alive = IL.alive (L.take i) ++ L[i].1 :: IL.alive (L.drop (i + 1)):=by
   conv => lhs; rw [← List.take_append_drop (i + 1) L]
   rw [IL.alive_append,IL.alive_take_succ hi,if_pos hl,List.append_assoc]
   rfl
 have hlt : (IL.alive (L.take i)).length < L.alive.length:=by rw [h1]; simp
 have:=placeL_at (IL.alive_nodup hn) hlt
 have e : L.alive[(IL.alive (L.take i)).length] = L[i].1:=by
   have h2 : L.alive[(IL.alive (L.take i)).length]? = some L[i].1:=by rw [h1]; simp
   rw [List.getElem?_eq_getElem hlt] at h2
   exact Option.some.inj h2
 rwa [e] at this
def freshL (n : Nat) : List Ik:=(List.range n).map fun i => ⟨0,((i + 1 : Nat) : Int)⟩
theorem freshL_len (n : Nat) : (freshL n).length = n:=by simp [freshL]
theorem freshL_nodup (n : Nat) : (freshL n).Nodup:=by
 unfold freshL List.Nodup
 rw [List.pairwise_map]
 refine (List.nodup_range (n:=n)).imp (fun {x y} h e => h ?_)
 simp only [Ik.mk.injEq,true_and] at e
 omega
theorem freshL_nz (n : Nat) : ∀ x ∈ freshL n,x.z = false:=by
 intro x hx
 obtain ⟨i,-,rfl⟩:=List.mem_map.1 hx
 unfold Ik.z
 simp
 omega
def allL (l : List Ik) : IL:=l.map fun x => (x,true)
theorem allL_ids (l : List Ik) : (allL l).ids = l:=by simp [allL,IL.ids,List.map_map,Function.comp_def]
theorem allL_alive (l : List Ik) : (allL l).alive = l:=by
 unfold allL IL.alive
 induction l with
 | nil => rfl
 | cons x l ih => simpa using ih
end Go.Proofs.YtbkmnboicihchaaGreat
namespace Go.Proofs.YtbkmnboicihchaaGreat
open Go Go.RowKit Go.Shelf Go.Maps
def Ik.val (x : Ik) : Value:=.agg #[.int .i64 x.a,.int .i64 x.n]
def Ik.cs (x : Ik) : List Value:=[.int .i64 x.a,.int .i64 x.n]
def Ik.ok (x : Ik) : Prop:=i64 x.a ∧ i64 x.n
def Ik.key (x : Ik) : Lit:=.string (keyBytes [.int .i64 x.a,.int .i64 x.n])
theorem ikUnd : Tryz.prog.underlying 27 = some (.struct (Tryz.prog.fieldsOf 27)):=by kernel_rfl
theorem ikUndInt : Tryz.prog.underlying 3 = some (.int .i64):=by kernel_rfl
theorem ik_law : Keyed Tryz.prog 27:=Keyed.of_law (deep_law_laid (by kernel_rfl) (m:=2) (by decide) (of_decide_eq_true (by kernel_rfl)) (by kernel_rfl) (by kernel_rfl))
theorem ik_wf {n : Int} (h : i64 n) : (Lit.int .i64 n).wf = true:=by
 unfold i64 at h
 simp [Lit.wf,IntKind.min,IntKind.max,IntKind.signed,IntKind.bits]
 omega
theorem ik_keyLits_int (d : Nat) {n : Int} (h : i64 n) : Tryz.prog.keyLits (d + 1) 3 [.int .i64 n] = some [.int .i64 n]:=by
 unfold Program.keyLits
 simp only [ikUndInt]
 rw [if_pos ⟨trivial,ik_wf h⟩]
theorem ik_keyLits (d : Nat) {a n : Int} (h : i64 a) (h' : i64 n) : Tryz.prog.keyLits (d + 2) 27 [.int .i64 a,.int .i64 n] = some [.int .i64 a,.int .i64 n]:=by
 unfold Program.keyLits
 simp only [ikUnd]
 rw [if_pos ⟨by kernel_rfl,by kernel_rfl⟩]
 have hf : (Tryz.prog.fieldsOf 27).toList.map (fun f => (f.type,f.offset)) = [(3,0),(3,1)]:=by kernel_rfl
 have hc : Tryz.prog.cellsOf 3 = 1:=by kernel_rfl
 generalize (Tryz.prog.fieldsOf 27).toList = fs at hf
 obtain ⟨f0,fs,rfl⟩ : ∃ f0 r,fs = f0 :: r:=by cases fs with | nil => simp at hf | cons a l => exact ⟨a,l,rfl⟩
 obtain ⟨f1,fs,rfl⟩ : ∃ f0 r,fs = f0 :: r:=by cases fs with | nil => simp at hf | cons a l => exact ⟨a,l,rfl⟩
 obtain rfl : fs = []:=by cases fs with | nil => rfl | cons a l => simp at hf
 simp only [List.map_cons,List.map_nil,List.cons.injEq,Prod.mk.injEq,and_true] at hf
 obtain ⟨⟨t0,o0⟩,t1,o1⟩:=hf
 rw [List.mapM_cons,List.mapM_cons,List.mapM_nil,t0,o0,t1,o1,hc]
 simp [ik_keyLits_int d h,ik_keyLits_int d h']
theorem ik_key (x : Ik) (h : x.ok) : keyOf Tryz.prog 27 x.val = some x.key:=by
 obtain ⟨a,n⟩:=x
 obtain ⟨h1,h2⟩:=h
 dsimp only at h1 h2
 unfold keyOf Ik.val Ik.key
 simp only [ikUnd,Value.cells]
 rw [if_pos (by kernel_rfl)]
 obtain ⟨d,hd⟩ : ∃ d,Tryz.prog.types.size + 1 = d + 2:=⟨Tryz.prog.types.size - 1,by kernel_rfl⟩
 rw [hd]
 have:=ik_keyLits d h1 h2
 simp [this]
theorem ik_inj {x y : Ik} (hx : x.ok) (hy : y.ok) (h : x.key = y.key) : x = y:=by
 have h1:=ik_key x hx
 have h2:=ik_key y hy
 rw [← h] at h2
 have:=ik_law.inj h1 h2
 simp only [Ik.val,Value.agg.injEq,Array.mk.injEq,List.cons.injEq,Value.int.injEq,true_and,and_true] at this
 obtain ⟨a,n⟩:=x
 obtain ⟨a',n'⟩:=y
 obtain ⟨rfl,rfl⟩:=this
 rfl
def dN (f : Nat → DataW Value) (l : List Ik) : Nat → DataW Value
 | 0 => .map []
 | k + 1 => match l[k]? with | some x => (dN f l k).put x.key (f k) | none => dN f l k
theorem dN_succ (f : Nat → DataW Value) {l : List Ik} {k : Nat} (h : k < l.length) : dN f l (k + 1) = (dN f l k).put l[k].key (f k):=by
 rw [dN,List.getElem?_eq_getElem h]
theorem dN_tidy (f : Nat → DataW Value) {l : List Ik} (hl : ∀ x ∈ l,x.ok) : ∀ k,k ≤ l.length → Tidy (dN f l k)
 | 0,_ => tidy_empty
 | k + 1,h => by rw [dN_succ f h]; exact (dN_tidy f hl k (by omega)).put (ik_law.key (ik_key _ (hl _ (List.getElem_mem h)))) _
theorem dN_has (f : Nat → DataW Value) {l : List Ik} (hl : ∀ x ∈ l,x.ok) (x : Ik) (hx : x.ok) : ∀ k,k ≤ l.length → (Maps.has (dN f l k) x.key = true ↔ ∃ i,∃ h : i < l.length,i < k ∧ l[i] = x)
 | 0,_ => by
   constructor
   · intro h; cases h
   · rintro ⟨i,-,h,_⟩; omega
 | k + 1,h => by
   have ih:=dN_has f hl x hx k (by omega)
   have hk:=ik_law.key (ik_key _ (hl _ (List.getElem_mem h)))
   by_cases e : l[k] = x
   · rw [dN_succ f h,← e]
     exact ⟨fun _ => ⟨k,h,by omega,rfl⟩,fun _ => Maps.has_put_same (dN_tidy f hl k (by omega)).isMap hk _⟩
   · have hne : x.key ≠ l[k].key:=fun e' => e (ik_inj hx (hl _ (List.getElem_mem h)) e').symm
     rw [dN_succ f h,Maps.has_put_other hne,ih]
     constructor
     · rintro ⟨i,h0,h1,h2⟩; exact ⟨i,h0,by omega,h2⟩
     · rintro ⟨i,h0,h1,h2⟩
       rcases Nat.lt_or_ge i k with h3 | h3
       · exact ⟨i,h0,h3,h2⟩
       · obtain rfl : i = k:=by omega
         exact absurd h2 e
theorem dN_at (f : Nat → DataW Value) {l : List Ik} (hl : ∀ x ∈ l,x.ok) (hn : l.Nodup) (z : DataW Value) : ∀ k,k ≤ l.length → ∀ i (h : i < l.length),i < k → (dN f l k).atKey l[i].key z = f i
 | 0,_,i,_,h => by omega
 | k + 1,h,i,hi,hik => by
   have hk:=ik_law.key (ik_key _ (hl _ (List.getElem_mem h)))
   rw [dN_succ f h]
   by_cases e : i = k
   · subst e
     exact Maps.atKey_put_same (dN_tidy f hl i (by omega)).isMap hk _ _
   · have hne : l[i].key ≠ l[k].key:=fun e' => e ((List.getElem_inj hn).1 (ik_inj (hl _ (List.getElem_mem hi)) (hl _ (List.getElem_mem h)) e'))
     rw [Maps.atKey_put_other hne]
     exact dN_at f hl hn z k (by omega) i hi (by omega)
theorem dN_new (f : Nat → DataW Value) {l : List Ik} (hl : ∀ x ∈ l,x.ok) (hn : l.Nodup) {k : Nat} (h : k < l.length) : Maps.has (dN f l k) l[k].key = false:=by
 rw [Bool.eq_false_iff]
 intro h'
 obtain ⟨i,h0,h1,h2⟩:=(dN_has f hl _ (hl _ (List.getElem_mem h)) k (by omega)).1 h'
 have:=(List.getElem_inj hn).1 h2
 omega
def IL.cells (L : IL) : List Value:=L.flatMap fun x => x.1.cs
def IL.lives (L : IL) : List Value:=L.map fun x => .bool x.2
structure IL.Ok (L : IL) : Prop where
 ok : ∀ x ∈ L.ids,x.ok
 nz : ∀ x ∈ L.ids,x.z = false
 nodup : L.ids.Nodup
 len : L.length ≤ 1000
def IL.ahead (L : IL) (k : Nat) : List Value:=(List.range k).map fun i => .int .i64 ((IL.alive (L.take i)).length : Nat)
def idx : Nat → DataW Value:=fun i => .lit (.int .i64 (i : Int))
def yes : Nat → DataW Value:=fun _ => .lit (.bool true)
theorem IL.ids_len (L : IL) : L.ids.length = L.length:=by simp [IL.ids]
def ikCells (l : List Ik) : List Value:=l.flatMap Ik.cs
theorem ikCells_get : ∀ {l : List Ik} {j : Nat} (h : j < l.length),(ikCells l)[j * 2]? = some (.int .i64 l[j].a) ∧ (ikCells l)[j * 2 + 1]? = some (.int .i64 l[j].n)
 | x :: l,0,_ => ⟨rfl,rfl⟩
 | x :: l,j + 1,h => by
   have:=ikCells_get (l:=l) (j:=j) (by simpa using h)
   have e : ikCells (x :: l) = Value.int .i64 x.a :: Value.int .i64 x.n :: ikCells l:=rfl
   rw [e,show (j + 1) * 2 = j * 2 + 1 + 1 by omega]
   simpa using this
theorem ikCells_snoc (l : List Ik) (x : Ik) : ikCells (l ++ [x]) = ikCells l ++ [.int .i64 x.a,.int .i64 x.n]:=by simp [ikCells,Ik.cs]
end Go.Proofs.YtbkmnboicihchaaGreat
namespace Go.Proofs.YtbkmnboicihchaaGreat
open Go Go.RowKit Go.Shelf Go.Maps
theorem infoIk : (Tryz.prog.info? 27).map (fun i => (i.zero,i.size,i.bytes)) = some (some (.agg #[.int .i64 0,.int .i64 0]),2,16):=by kernel_rfl
theorem infIk : (Tryz.prog.info? 27).map (·.size) = some 2:=by kernel_rfl
theorem undIks : Tryz.prog.underlying 44 = some (.slice 27):=by kernel_rfl
theorem infoBl : (Tryz.prog.info? 4).map (fun i => (i.zero,i.size,i.bytes)) = some (some (.bool false),1,1):=by kernel_rfl
theorem undBls : Tryz.prog.underlying 89 = some (.slice 4):=by kernel_rfl
theorem undBl : Tryz.prog.underlying 4 = some .bool:=by kernel_rfl
theorem undMpB : Tryz.prog.underlying 94 = some (.map 27 4):=by kernel_rfl
theorem zeroBl (w : World) : (zeroValue 4).run Tryz.prog w = .ok (.bool false) w:=by kernel_rfl
theorem blElem (b : Bool) : plainElem (H:=Value) Tryz.prog 4 (.bool b) = some (.lit (.bool b),[]):=plainElem_bool undBl b
theorem own_parts {w : World} {base : Nat} {e : TypeId} {size : Nat} {v : Value} {n : Nat} {xs : List Value} (h : w.ownsRow base e size v n xs) : ∃ A c,v = .slice A n c ∧ n ≤ c ∧ c ≤ 9223372036854775807:=by
 rcases h.2 with ⟨rfl,rfl⟩ | ⟨g,cap,cur,rfl,-,-,h1,h2,-⟩
 · exact ⟨none,0,rfl,by omega,by omega⟩
 · exact ⟨_,cap,rfl,h1,by unfold maxLen at h2; omega⟩
theorem own_sameA {w w' : World} {base : Nat} {e : TypeId} {size : Nat} {v : Value} {n : Nat} {xs : List Value} (h : w.ownsRow base e size v n xs) (hk : ∀ (g : Nat) (cs : Array Value),w.heap[g]? = some (.cells cs e (0,0)) → base ≤ g → w'.heap[g]? = w.heap[g]?) : w'.ownsRow base e size v n xs:=by
 refine ⟨h.1,h.2.elim .inl ?_⟩
 rintro ⟨g,cap,cur,e1,e2,e3,e4⟩
 exact .inr ⟨g,cap,cur,e1,e2,(hk g cur e3 e2).trans e3,e4⟩
theorem own_blk {W : World} {base : Nat} {e : TypeId} {size : Nat} {v : Value} {n : Nat} {xs : List Value} (h : W.ownsRow base e size v n xs) : ∀ k,v.ownBlock = some k → base ≤ k ∧ ∃ cur,W.heap[k]? = some (.cells cur e):=by
 intro k hk
 rcases h.2 with ⟨e,_⟩ | ⟨g,cap,cur,e,h1,h2,-⟩
 · rw [e] at hk; cases hk
 · rw [e] at hk
   simp only [Value.ownBlock,Option.some.injEq] at hk
   subst hk
   exact ⟨h1,cur,h2⟩
theorem map_kept {P : Program} {k : TypeId} {R : Value → Option (DataW Value × List MemPlace)} {w w' : World} {b n : Nat} {D : DataW Value} (h : w.ownsMap P k R b n D) (hb : w'.heap[b]? = w.heap[b]?) : w'.ownsMap P k R b n D:=by
 obtain ⟨es,clock,e1,e2⟩:=h
 exact ⟨es,clock,hb.trans e1,e2⟩
def axCs (vi vl : Value) (m : Option Nat) (va vv : Value) : Array Value:=#[vi,vl,.map m,va,vv]
def Ax0 (W : World) (p : Nat) (L : IL) : Prop :=
 ∃ vi vl,W.heap[p]? = some (.cells (axCs vi vl none (.slice none 0 0) (.slice none 0 0)) 93) ∧ W.ownsRow 0 27 2 vi L.length L.cells ∧ W.ownsRow 0 4 1 vl L.length L.lives
def IkSl (w : World) (B : Nat) (A : Option Addr) (c : Nat) (l : List Ik) : Prop :=
 l.length ≤ c ∧ c ≤ 9223372036854775807 ∧ (l = [] ∨ ∃ b o,A = some ⟨b,o,none⟩ ∧ b < B ∧ ∀ j (h : j < l.length),w.rangeAt b (o + j * 2) [.int .i64 l[j].a,.int .i64 l[j].n])
def RNew (w : World) (p : Nat) (l : List Ik) (j : Nat) (wr : World) : Prop :=
 ∃ Ai ci Al cl,wr.heap[p]? = some (.cells (axCs (.slice Ai j ci) (.slice Al j cl) none (.slice none 0 0) (.slice none 0 0)) 93) ∧
   wr.ownsRow (p + 2) 27 2 (.slice Ai j ci) j (ikCells (l.take j)) ∧ wr.ownsRow (p + 2) 4 1 (.slice Al j cl) j (List.replicate j (.bool true)) ∧
   wr.ownsMap Tryz.prog 27 (plainElem Tryz.prog 4) (p + 1) j (dN yes l j) ∧ Below p w wr ∧ p + 2 ≤ wr.heap.size
theorem RNew.step {w wr w2 w4 w6 : World} {p : Nat} {l : List Ik} {j : Nat} (hj : j < l.length) {Ai Al : Option Addr} {ci cl : Nat}
   (hp : wr.heap[p]? = some (.cells (axCs (.slice Ai j ci) (.slice Al j cl) none (.slice none 0 0) (.slice none 0 0)) 93)) (hr : wr.ownsRow (p + 2) 27 2 (.slice Ai j ci) j (ikCells (l.take j))) (hb : Below p w wr) (hs : p + 2 ≤ wr.heap.size)
   (hl : wr.ownsRow (p + 2) 4 1 (.slice Al j cl) j (List.replicate j (.bool true)))
   {o1 o2 o3 : Obj} (hm : w2.ownsMap Tryz.prog 27 (plainElem Tryz.prog 4) (p + 1) (j + 1) ((dN yes l j).put l[j].key (.lit (.bool true)))) (hg2 : (wr.alloc o1).grownBy w2 (some (p + 1)))
   {A2 A3 : Option Addr} {c2 c3 : Nat} (hg4 : (w2.alloc o2).grownBy w4 (Value.slice Ai j ci).ownBlock) (ho4 : w4.ownsRow (p + 2) 27 2 (.slice A2 (j + 1) c2) (j + 1) (ikCells (l.take j) ++ [.int .i64 l[j].a,.int .i64 l[j].n]))
   (hg6 : ((w4.setCell ⟨p,0,none⟩ (.slice A2 (j + 1) c2)).alloc o3).grownBy w6 (Value.slice Al j cl).ownBlock) (ho6 : w6.ownsRow (p + 2) 4 1 (.slice A3 (j + 1) c3) (j + 1) (List.replicate j (.bool true) ++ [.bool true])) :
   RNew w p l (j + 1) (w6.setCell ⟨p,1,none⟩ (.slice A3 (j + 1) c3)):=by
 have hpl : p < wr.heap.size:=(Array.getElem?_eq_some_iff.1 hp).1
 have s2:=hg2.size
 have s4:=hg4.size
 have s6:=hg6.size
 simp only [World.size_alloc,size_setCell] at s2 s4 s6
 have bi : ∀ k,(Value.slice Ai j ci).ownBlock = some k → p + 2 ≤ k ∧ k < wr.heap.size ∧ ∃ cur,wr.heap[k]? = some (.cells cur 27):=fun k hk => by
   obtain ⟨h1,cur,h2⟩:=own_blk hr k hk
   exact ⟨h1,(Array.getElem?_eq_some_iff.1 h2).1,cur,h2⟩
 have bl : ∀ k,(Value.slice Al j cl).ownBlock = some k → p + 2 ≤ k ∧ k < wr.heap.size ∧ ∃ cur,wr.heap[k]? = some (.cells cur 4):=fun k hk => by
   obtain ⟨h1,cur,h2⟩:=own_blk hl k hk
   exact ⟨h1,(Array.getElem?_eq_some_iff.1 h2).1,cur,h2⟩
 have k2 : ∀ k,k < wr.heap.size → k ≠ p + 1 → w2.heap[k]? = wr.heap[k]?:=fun k h1 h2 => (hg2.block k (by rw [World.size_alloc]; omega) (fun e => h2 (Option.some.inj e))).trans (heapOld _ _ _ h1)
 have k4 : ∀ k,k < w2.heap.size → (Value.slice Ai j ci).ownBlock ≠ some k → w4.heap[k]? = w2.heap[k]?:=fun k h1 h2 => (hg4.block k (by rw [World.size_alloc]; omega) (fun e => h2 e.symm)).trans (heapOld _ _ _ h1)
 have k5 : ∀ k,k ≠ p → (w4.setCell ⟨p,0,none⟩ (.slice A2 (j + 1) c2)).heap[k]? = w4.heap[k]?:=fun k h1 => heap_setCell_other _ _ _ _ h1
 have k6 : ∀ k,k < w4.heap.size → (Value.slice Al j cl).ownBlock ≠ some k → w6.heap[k]? = (w4.setCell ⟨p,0,none⟩ (.slice A2 (j + 1) c2)).heap[k]?:=fun k h1 h2 => (hg6.block k (by rw [World.size_alloc,size_setCell]; omega) (fun e => h2 e.symm)).trans (heapOld _ _ _ (by rw [size_setCell]; exact h1))
 have k7 : ∀ k,k ≠ p → (w6.setCell ⟨p,1,none⟩ (.slice A3 (j + 1) c3)).heap[k]? = w6.heap[k]?:=fun k h1 => heap_setCell_other _ _ _ _ h1
 have np : ∀ {A : Option Addr} {c : Nat} {T : TypeId},(∀ k,(Value.slice A j c).ownBlock = some k → p + 2 ≤ k ∧ k < wr.heap.size ∧ ∃ cur,wr.heap[k]? = some (.cells cur T)) → ∀ k,k < p + 2 → (Value.slice A j c).ownBlock ≠ some k:=fun h k hk e => by have:=(h k e).1; omega
 have hp4 : w4.heap[p]? = some (.cells (axCs (.slice Ai j ci) (.slice Al j cl) none (.slice none 0 0) (.slice none 0 0)) 93):=((k4 p (by omega) (np bi p (by omega))).trans (k2 p hpl (by omega))).trans hp
 have hp5 : (w4.setCell ⟨p,0,none⟩ (.slice A2 (j + 1) c2)).heap[p]? = some (.cells (axCs (.slice A2 (j + 1) c2) (.slice Al j cl) none (.slice none 0 0) (.slice none 0 0)) 93):=heap_setCell_same _ _ _ _ _ _ hp4
 have hp6 : w6.heap[p]? = some (.cells (axCs (.slice A2 (j + 1) c2) (.slice Al j cl) none (.slice none 0 0) (.slice none 0 0)) 93):=(k6 p (by omega) (np bl p (by omega))).trans hp5
 have hp7 : (w6.setCell ⟨p,1,none⟩ (.slice A3 (j + 1) c3)).heap[p]? = some (.cells (axCs (.slice A2 (j + 1) c2) (.slice A3 (j + 1) c3) none (.slice none 0 0) (.slice none 0 0)) 93):=heap_setCell_same _ _ _ _ _ _ hp6
 have e1 : ikCells (l.take (j + 1)) = ikCells (l.take j) ++ [.int .i64 l[j].a,.int .i64 l[j].n]:=by rw [List.take_succ_eq_append_getElem hj,ikCells_snoc]
 have e2 : List.replicate (j + 1) (Value.bool true) = List.replicate j (.bool true) ++ [.bool true]:=List.replicate_succ'
 refine ⟨A2,c2,A3,c3,hp7,?_,?_,?_,?_,?_⟩
 · rw [e1]
   refine own_sameA ho4 (fun g cs hg hgb => ?_)
   have hgl:=(Array.getElem?_eq_some_iff.1 hg).1
   refine ((k7 g (by omega)).trans (k6 g hgl (fun e => ?_))).trans (k5 g (by omega))
   obtain ⟨h1,h2,cur,h3⟩:=bl g e
   by_cases hi : (Value.slice Ai j ci).ownBlock = some g
   · obtain ⟨-,-,cur',h4⟩:=bi g hi
     rw [h3] at h4
     simp only [Option.some.injEq,Obj.cells.injEq] at h4
     exact absurd h4.2.1 (by decide)
   · rw [k4 g (by omega) hi,k2 g h2 (by omega),h3] at hg
     simp only [Option.some.injEq,Obj.cells.injEq] at hg
     exact absurd hg.2.1 (by decide)
 · rw [e2]
   exact own_sameA ho6 (fun g cs hg hgb => k7 g (by omega))
 · rw [dN_succ yes hj]
   exact map_kept hm (((k7 _ (by omega)).trans (k6 _ (by omega) (np bl _ (by omega)))).trans ((k5 _ (by omega)).trans (k4 _ (by omega) (np bi _ (by omega)))))
 · refine ⟨?_,?_,?_,?_,fun k hk => ?_⟩
   · exact (hg6.os.trans (hg4.os.trans hg2.os)).trans hb.os
   · exact (hg6.tape.trans (hg4.tape.trans hg2.tape)).trans hb.tape
   · exact (hg6.output.trans (hg4.output.trans hg2.output)).trans hb.output
   · have:=hb.size; rw [size_setCell]; omega
   · exact ((k7 k (by omega)).trans (k6 k (by omega) (np bl k (by omega)))).trans ((k5 k (by omega)).trans ((k4 k (by omega) (np bi k (by omega))).trans ((k2 k (by omega) (by omega)).trans (hb.block k hk))))
 · rw [size_setCell]; omega
end Go.Proofs.YtbkmnboicihchaaGreat
