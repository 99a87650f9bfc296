/- Nodes in memory: what is said of them in every seat. slices.Clone of nodes. Trees that are being copied: the lists of some nodes are still the old ones. No program in sight. Trees that are being copied,in memory. A step of tree.copied. Trees in memory of their own. Whole nodes that are built,laid into variables and stored. -/
import Derived.Test.YtjobojfaocihfaaGreatRows
import Derived.Test.YtjobojfaocihfaaGreatAt
import Derived.Shelf.Abstract
import Derived.OwnWalkIn
import Derived.Deep.QuietTactic
import Derived.BigQuiet
import Derived.Laws.StructEq
import Derived.Deep.MidRow
import Derived.BigFrame
import Derived.Laws.OwnMore
import Derived.StillTailTactics
import Derived.RegionTactic
import Derived.Deep.LoopGhost
import Derived.Deep.DeepCutAuto
import Derived.Deep.AppendLies
import Derived.Deep.RegionHeld3
import Derived.LoopTactic
import Derived.Laws.Rows
import Derived.RangeFuncRecord
import Derived.Deep.RegionLaw
import Derived.Outline
import Derived.WalkSpells
import Derived.Lib.LazyBuf
import Derived.Laws.Tables
import Derived.Great.Walk
namespace Go.Proofs.YtjobojfaocihfaaGreat
set_option maxRecDepth 100000
set_option maxHeartbeats 2000000
open Go.RowKit Go.Shelf
theorem heapOld (w : World) (o : Obj) (i : Nat) (h : i < w.heap.size) : (w.alloc o).heap[i]? = w.heap[i]?:=by
 show (w.heap.push o)[i]? = w.heap[i]?
 rw [Array.getElem?_push,if_neg (Nat.ne_of_lt h)]
abbrev nodeV (d : ND) (A : Option Addr) (n c : Nat) : Value:=.agg (nodeA d A n c)
theorem boxed_node {w w1 : World} {B b : Nat} {t : Tr} {A : Option Addr} {c : Nat} {T : TypeId} {fz : Nat × Nat} (hd : t.d.ok) (hs : SlAt w B A c t.l) (hB : B ≤ b) (hw : Below B w w1) (hb : w1.heap[b]? = some (.cells (nodeA t.d A t.l.length c) T fz)) : NodeAt w1 (b + 1) b 0 t:=by
 refine NodeAt.mk (by omega) hd (A:=A) (c:=c) ?_ ((hs.below hw).more (by omega))
 intro j hj
 rw [Nat.zero_add]
 exact cell_of_row w1 b j _ _ _ hb
theorem own_form {w : World} {base : Nat} {e : TypeId} {size : Nat} {v : Value} {n : Nat} {xs : List Value} (h : w.ownsRow base e size v n xs) (hn : 0 < n) :
 ∃ g cap cur,v = .slice (some ⟨g,0,none⟩) n cap ∧ base ≤ g ∧ w.heap[g]? = some (.cells cur e (0,0)) ∧ n ≤ cap ∧ cap ≤ maxLen ∧ cur.size = cap * size ∧ cur.toList.take (n * size) = xs:=by
 rcases h.2 with ⟨_,rfl⟩ | h
 · omega
 · exact h
theorem own_cell {w : World} {base : Nat} {e : TypeId} {size : Nat} {v : Value} {n : Nat} {xs : List Value} (h : w.ownsRow base e size v n xs) {g cap : Nat} (hv : v = .slice (some ⟨g,0,none⟩) n cap) (j : Nat) (u : Value) (hu : xs[j]? = some u) : w.cell? ⟨g,j,none⟩ = some u:=by
 have:=h.cells (g:=g) (by subst hv; rfl) j u hu
 have hadd : (⟨g,0,none⟩ : Addr).add j = ⟨g,j,none⟩:=by unfold Addr.add; split <;> simp_all
 rwa [hadd] at this
deriving instance DecidableEq for Cn
deriving instance DecidableEq for Vl
deriving instance DecidableEq for ND
theorem NodeCells.all {w : World} {b o : Nat} {d : ND} {A : Option Addr} {n c : Nat} (h : NodeCells w b o d A n c) : w.cell? ⟨b,o,none⟩ = some (.int .i64 d.kind) ∧ w.cell? ⟨b,o + 1,none⟩ = some (.int .i64 d.v.k) ∧ w.cell? ⟨b,o + 2,none⟩ = some (.int .i64 d.v.mant) ∧ w.cell? ⟨b,o + 3,none⟩ = some (.int .i64 d.v.exp) ∧ w.cell? ⟨b,o + 4,none⟩ = some (.string d.v.text) ∧ w.cell? ⟨b,o + 5,none⟩ = some (.bool d.v.truth) ∧ w.cell? ⟨b,o + 6,none⟩ = some (.int .i64 d.v.fault) ∧ w.cell? ⟨b,o + 7,none⟩ = some (.string d.name) ∧ w.cell? ⟨b,o + 8,none⟩ = some (.int .i64 d.a.ra) ∧ w.cell? ⟨b,o + 9,none⟩ = some (.int .i64 d.a.rn) ∧ w.cell? ⟨b,o + 10,none⟩ = some (.int .i64 d.a.ca) ∧ w.cell? ⟨b,o + 11,none⟩ = some (.int .i64 d.a.cn) ∧ w.cell? ⟨b,o + 12,none⟩ = some (.bool d.a.fr) ∧ w.cell? ⟨b,o + 13,none⟩ = some (.bool d.a.fc) ∧ w.cell? ⟨b,o + 14,none⟩ = some (.int .i64 d.b.ra) ∧ w.cell? ⟨b,o + 15,none⟩ = some (.int .i64 d.b.rn) ∧ w.cell? ⟨b,o + 16,none⟩ = some (.int .i64 d.b.ca) ∧ w.cell? ⟨b,o + 17,none⟩ = some (.int .i64 d.b.cn) ∧ w.cell? ⟨b,o + 18,none⟩ = some (.bool d.b.fr) ∧ w.cell? ⟨b,o + 19,none⟩ = some (.bool d.b.fc) ∧ w.cell? ⟨b,o + 20,none⟩ = some (.int .i64 d.rows) ∧ w.cell? ⟨b,o + 21,none⟩ = some (.slice A n c) :=
 ⟨h 0 (by decide),h 1 (by decide),h 2 (by decide),h 3 (by decide),h 4 (by decide),h 5 (by decide),h 6 (by decide),h 7 (by decide),h 8 (by decide),h 9 (by decide),h 10 (by decide),h 11 (by decide),h 12 (by decide),h 13 (by decide),h 14 (by decide),h 15 (by decide),h 16 (by decide),h 17 (by decide),h 18 (by decide),h 19 (by decide),h 20 (by decide),h 21 (by decide)⟩
theorem str_eq (s t : ByteArray) : (s.toList = t.toList) = (s = t):=by
 rw [ByteArray.toList_eq,ByteArray.toList_eq]
 exact propext ⟨fun h => ByteArray.ext (Array.ext' h),fun h => by rw [h]⟩
theorem ite_ok (c : Prop) [Decidable c] (b : Bool) (w : World) : (if c then (Result.ok b w : Result Bool) else .ok false w) = .ok (decide c && b) w:=by split <;> simp [*]
theorem eqV (w : World) (v v' : Vl) : (Op.equalIn 10000 47 (.agg #[.int .i64 v.k,.int .i64 v.mant,.int .i64 v.exp,.string v.text,.bool v.truth,.int .i64 v.fault]) (.agg #[.int .i64 v'.k,.int .i64 v'.mant,.int .i64 v'.exp,.string v'.text,.bool v'.truth,.int .i64 v'.fault])).run Tryz.prog w = .ok (decide (v = v')) w:=by
 have hd : decide (v = v') = (decide (v.k = v'.k) && (decide (v.mant = v'.mant) && (decide (v.exp = v'.exp) && (decide (v.text = v'.text) && (decide (v.truth = v'.truth) && decide (v.fault = v'.fault)))))):=by
  cases v; cases v'; simp only [Vl.mk.injEq,Bool.decide_and]
 rw [hd]
 simp [go_sem,str_eq]
 simp only [ite_ok,Bool.and_true]
theorem eqA (w : World) (a b a' b' : Cn) : (Op.equalIn 10000 51 (.agg #[.int .i64 a.ra,.int .i64 a.rn,.int .i64 a.ca,.int .i64 a.cn,.bool a.fr,.bool a.fc,.int .i64 b.ra,.int .i64 b.rn,.int .i64 b.ca,.int .i64 b.cn,.bool b.fr,.bool b.fc]) (.agg #[.int .i64 a'.ra,.int .i64 a'.rn,.int .i64 a'.ca,.int .i64 a'.cn,.bool a'.fr,.bool a'.fc,.int .i64 b'.ra,.int .i64 b'.rn,.int .i64 b'.ca,.int .i64 b'.cn,.bool b'.fr,.bool b'.fc])).run Tryz.prog w = .ok (decide (a = a' ∧ b = b')) w:=by
 have hd : ∀ a a' : Cn,decide (a = a') = (decide (a.ra = a'.ra) && (decide (a.rn = a'.rn) && (decide (a.ca = a'.ca) && (decide (a.cn = a'.cn) && (decide (a.fr = a'.fr) && decide (a.fc = a'.fc)))))):=by
  intro a a'; cases a; cases a'; simp only [Cn.mk.injEq,Bool.decide_and]
 rw [Bool.decide_and,hd a a',hd b b']
 simp [go_sem]
 simp only [ite_ok,Bool.and_true,Bool.and_assoc]
theorem eqI (w : World) (a n a' n' : Int) : (Op.equalIn 10000 41 (.agg #[.int .i64 a,.int .i64 n]) (.agg #[.int .i64 a',.int .i64 n'])).run Tryz.prog w = .ok (decide (a = a' ∧ n = n')) w:=by
 rw [Bool.decide_and]
 simp [go_sem]
 by_cases h : a = a' <;> by_cases h2 : n = n' <;> simp [h,h2]
theorem below_drewN {B : Nat} {a w : World} (h : Below B a w) (n : Nat) : Below B a (w.drewN n):=⟨h.os,h.tape,h.output,h.size,h.block⟩
theorem ret_bool {a b : Bool} (h : a = b) : Ending.returned (.bool a) = .returned (.bool b):=by rw [h]
theorem nodeV_eq (d : ND) (A : Option Addr) (n c : Nat) : nodeV d A n c = .agg #[.int .i64 d.kind,.int .i64 d.v.k,.int .i64 d.v.mant,.int .i64 d.v.exp,.string d.v.text,.bool d.v.truth,.int .i64 d.v.fault,.string d.name,.int .i64 d.a.ra,.int .i64 d.a.rn,.int .i64 d.a.ca,.int .i64 d.a.cn,.bool d.a.fr,.bool d.a.fc,.int .i64 d.b.ra,.int .i64 d.b.rn,.int .i64 d.b.ca,.int .i64 d.b.cn,.bool d.b.fr,.bool d.b.fc,.int .i64 d.rows,.slice A n c]:=rfl
theorem bcell {W w1 : World} (hb : Below W.heap.size W w1) : (∀ b o,b < W.heap.size → w1.cell? ⟨b,o,none⟩ = W.cell? ⟨b,o,none⟩) ∧ (∀ b o,b < W.heap.size → w1.frozen? ⟨b,o,none⟩ = W.frozen? ⟨b,o,none⟩) :=
 ⟨fun b o h => hb.cell (p:=⟨b,o,none⟩) h,fun b o h => hb.frozen (p:=⟨b,o,none⟩) h⟩
theorem wpList_row {P : Program} {ops : Array Oper} {rest : List Oper} {o : Oper} {a : Act} {w : World} {Q : Exit → Act → World → Prop} (hw : Region.wanted o (yielded ops a.tmps) = true) (ty : TypeId) (x : Operand) (ho : o.op = .load ty x)
 (g : Nat) (hx : a.eval x = .pointer (some ⟨g,0,none⟩)) (t : TypeId) (cs : Array Value) (fr : Nat × Nat) (d : TypeDesc) (hg : w.heap[g]? = some (.cells cs t fr))
 (hu : P.underlying ty = some d) (hd : (match d with | .struct _ | .array _ _ => true | _ => false) = true) (hi : (P.info? ty).map (·.size) = some cs.size)
 (h : wpList P ops Q rest (a.put o.dst (.agg cs)) w) : wpList P ops Q (o :: rest) a w :=
 BigFrame.wpList_want hw fun _ hK => wp_load_row ty x ho g hx t cs fr d hg hu hd hi (hK _ _ h)
theorem wpList_mid {P : Program} {ops : Array Oper} {rest : List Oper} {op : Oper} {a : Act} {w : World} {Q : Exit → Act → World → Prop} (hw : Region.wanted op (yielded ops a.tmps) = true) (ty : TypeId) (x : Operand) (ho : op.op = .load ty x)
 (b o : Nat) (hx : a.eval x = .pointer (some ⟨b,o,none⟩)) (cs : List Value) (d : TypeDesc) (hc : w.rangeAt b o cs)
 (hu : P.underlying ty = some d) (hd : d.isRow = true) (hi : (P.info? ty).map (·.size) = some cs.length)
 (h : wpList P ops Q rest (a.put op.dst (.agg cs.toArray)) w) : wpList P ops Q (op :: rest) a w :=
 BigFrame.wpList_want hw fun _ hK => wp_load_mid ty x ho b o hx cs d hc hu hd hi (hK _ _ h)
theorem undN : Tryz.prog.underlying 54 = some (.struct (Tryz.prog.fieldsOf 54)):=by kernel_rfl
theorem infN : (Tryz.prog.info? 54).map (·.size) = some 22:=by kernel_rfl
theorem NodeCells.range {w w' : World} {b o : Nat} {d : ND} {A : Option Addr} {n c : Nat} (h : NodeCells w b o d A n c) (hk : ∀ p : Addr,p.block = b → w'.cell? p = w.cell? p) : ∃ cs : List Value,cs.toArray = nodeA d A n c ∧ cs.length = 22 ∧ w'.rangeAt b o cs:=by
 refine ⟨d.head ++ [.slice A n c],rfl,rfl,fun j v hv => ?_⟩
 have hj : j < 22:=(List.getElem?_eq_some_iff.1 hv).1
 exact ((h.keep hk) j hj).trans (by simpa [nodeA] using hv)
def NCells (w : World) (B : Nat) (t : Tr) (cs : List Value) : Prop:=∃ A c,cs = t.d.head ++ [.slice A t.l.length c] ∧ t.d.ok ∧ SlAt w B A c t.l
def NRow (w : World) (B : Nat) : List Tr → List Value → Prop
 | [],xs => xs = []
 | t :: ts,xs => ∃ cs ys,xs = cs ++ ys ∧ NCells w B t cs ∧ NRow w B ts ys
theorem NCells.len {w : World} {B : Nat} {t : Tr} {cs : List Value} (h : NCells w B t cs) : cs.length = 22:=by obtain ⟨A,c,rfl,_⟩:=h; rfl
theorem NRow.len {w : World} {B : Nat} : ∀ {ts : List Tr} {xs : List Value},NRow w B ts xs → xs.length = ts.length * 22
 | [],xs,h => by simp only [NRow] at h; subst h; rfl
 | t :: ts,xs,h => by
  simp only [NRow] at h
  obtain ⟨cs,ys,rfl,h1,h2⟩:=h
  rw [List.length_append,h1.len,NRow.len h2,List.length_cons]; omega
theorem NRow.append {w : World} {B : Nat} : ∀ {ts us : List Tr} {xs ys : List Value},NRow w B ts xs → NRow w B us ys → NRow w B (ts ++ us) (xs ++ ys)
 | [],us,xs,ys,h,h' => by simp only [NRow] at h; subst h; simpa using h'
 | t :: ts,us,xs,ys,h,h' => by
  simp only [NRow] at h
  obtain ⟨cs,zs,rfl,h1,h2⟩:=h
  simp only [List.cons_append,NRow]
  exact ⟨cs,zs ++ ys,by simp,h1,NRow.append h2 h'⟩
theorem head_one (d : ND) (A : Option Addr) (n c : Nat) : ∀ u ∈ d.head ++ [Value.slice A n c],u.oneCell' = true:=by
 intro u hu
 simp [ND.head,Vl.cells,Cn.cells] at hu
 rcases hu with h | h | h | h | h | h | h | h | h | h | h | h | h | h | h | h | h | h | h | h | h | h <;> subst h <;> rfl
theorem NRow.one {w : World} {B : Nat} : ∀ {ts : List Tr} {xs : List Value},NRow w B ts xs → ∀ u ∈ xs,u.oneCell' = true
 | [],xs,h => by simp only [NRow] at h; subst h; intro u hu; cases hu
 | t :: ts,xs,h => by
  simp only [NRow] at h
  obtain ⟨cs,ys,rfl,⟨A,c,rfl,_⟩,h2⟩:=h
  intro u hu
  rcases List.mem_append.1 hu with hu | hu
  · exact head_one _ _ _ _ u hu
  · exact NRow.one h2 u hu
theorem NRow.keep {w w' : World} {B : Nat} (hb : Below B w w') : ∀ {ts : List Tr} {xs : List Value},NRow w B ts xs → NRow w' B ts xs
 | [],xs,h => h
 | t :: ts,xs,h => by
  simp only [NRow] at h ⊢
  obtain ⟨cs,ys,rfl,⟨A,c,rfl,hd,hs⟩,h2⟩:=h
  exact ⟨_,ys,rfl,⟨A,c,rfl,hd,hs.below hb⟩,NRow.keep hb h2⟩
theorem NRow.keep_rev {w w' : World} {B : Nat} (hB : B ≤ w.heap.size) (hb : Below w.heap.size w w') : ∀ {ts : List Tr} {xs : List Value},NRow w' B ts xs → NRow w B ts xs
 | [],xs,h => h
 | t :: ts,xs,h => by
  simp only [NRow] at h ⊢
  obtain ⟨cs,ys,rfl,⟨A,c,rfl,hd,hs⟩,h2⟩:=h
  exact ⟨_,ys,rfl,⟨A,c,rfl,hd,hs.keep (fun p hp => (hb.cell (by omega)).symm)⟩,NRow.keep_rev hB hb h2⟩
theorem NRow.more {w : World} {B B' : Nat} (hb : B ≤ B') : ∀ {ts : List Tr} {xs : List Value},NRow w B ts xs → NRow w B' ts xs
 | [],xs,h => h
 | t :: ts,xs,h => by
  simp only [NRow] at h ⊢
  obtain ⟨cs,ys,rfl,⟨A,c,rfl,hd,hs⟩,h2⟩:=h
  exact ⟨_,ys,rfl,⟨A,c,rfl,hd,hs.more hb⟩,NRow.more hb h2⟩
theorem NRow.kids {w : World} {B g : Nat} (hg : g < B) : ∀ {ts : List Tr} {xs : List Value} {o : Nat},NRow w B ts xs → (∀ j u,xs[j]? = some u → w.cell? ⟨g,o + j,none⟩ = some u) → KidsAt w B g o ts
 | [],xs,o,h,hc => by simp [KidsAt]
 | t :: ts,xs,o,h,hc => by
  simp only [NRow] at h
  obtain ⟨cs,ys,rfl,h1,h2⟩:=h
  have hl:=h1.len
  simp only [KidsAt]
  refine ⟨?_,NRow.kids hg h2 (fun j u hu => ?_)⟩
  · obtain ⟨A,c,rfl,hd,hs⟩:=h1
    refine NodeAt.mk hg hd (A:=A) (c:=c) (fun j hj => ?_) hs
    obtain ⟨u,hu⟩ : ∃ u,(t.d.head ++ [Value.slice A t.l.length c])[j]? = some u:=⟨_,List.getElem?_eq_getElem (by rw [hl]; exact hj)⟩
    have h1 : (nodeA t.d A t.l.length c)[j]? = (t.d.head ++ [Value.slice A t.l.length c])[j]?:=by simp [nodeA]
    rw [h1,hu]
    exact hc j u (by rw [List.getElem?_append_left (by rw [hl]; exact hj)]; exact hu)
  · have:=hc (22 + j) u (by rw [List.getElem?_append_right (by rw [hl]; omega),hl]; simpa using hu)
    rwa [show o + 22 + j = o + (22 + j) by omega]
theorem owns_below {w w' : World} {base : Nat} {e : TypeId} {size : Nat} {v : Value} {n : Nat} {xs : List Value} (h : w.ownsRow base e size v n xs) (hb : Below w.heap.size w w') : w'.ownsRow base e size v n xs:=by
 refine ⟨h.1,?_⟩
 rcases h.2 with h | ⟨g,cap,cur,h1,h2,h3,h4⟩
 · exact .inl h
 · exact .inr ⟨g,cap,cur,h1,h2,(hb.block g (Jg h3).1).trans h3,h4⟩
theorem owns_base {w : World} {base base' : Nat} {e : TypeId} {size : Nat} {v : Value} {n : Nat} {xs : List Value} (h : w.ownsRow base e size v n xs) (hb : base' ≤ base) : w.ownsRow base' e size v n xs:=by
 refine ⟨h.1,?_⟩
 rcases h.2 with h | ⟨g,cap,cur,h1,h2,h3⟩
 · exact .inl h
 · exact .inr ⟨g,cap,cur,h1,by omega,h3⟩
theorem nodess_append : ∀ (l m : List Tr),Tr.nodess (l ++ m) = Tr.nodess l ++ Tr.nodess m
 | [],m => by simp [Tr.nodess]
 | t :: l,m => by simp [Tr.nodess,nodess_append l m]
theorem nodess_step {l : List Tr} {i : Nat} (hi : i < l.length) : Tr.nodess (l.take (i + 1)) = Tr.nodess (l.take i) ++ l[i].nodes:=by
 rw [List.take_succ_eq_append_getElem hi,nodess_append]; simp [Tr.nodess]
theorem sizes_append : ∀ (l m : List Tr),Tr.sizes (l ++ m) = Tr.sizes l + Tr.sizes m
 | [],m => by simp [Tr.sizes]
 | t :: l,m => by simp only [List.cons_append,Tr.sizes,sizes_append l m]; omega
theorem nodes_len (t : Tr) : t.nodes.length = t.size:=by
 induction t using Tr.ind with
 | _ d l ih =>
  simp only [Tr.nodes,Tr.size,List.length_cons]
  congr 1
  induction l with
  | nil => simp [Tr.nodess,Tr.sizes]
  | cons a l ih2 => simp only [Tr.nodess,Tr.sizes,List.length_append]; rw [ih a (by simp),ih2 (fun t ht => ih t (by simp [ht]))]
theorem nodess_len (l : List Tr) : (Tr.nodess l).length = Tr.sizes l:=by
 induction l with
 | nil => simp [Tr.nodess,Tr.sizes]
 | cons a l ih => simp only [Tr.nodess,Tr.sizes,List.length_append,nodes_len,ih]
theorem sizes_take {l : List Tr} {i : Nat} (hi : i < l.length) : Tr.sizes (l.take i) + l[i].size ≤ Tr.sizes l:=by
 conv => rhs; rw [← List.take_append_drop i l,sizes_append,List.drop_eq_getElem_cons hi]
 simp only [Tr.sizes]; omega
theorem infoN : (Tryz.prog.info? 54).map (fun i => (i.zero,i.size,i.bytes)) = some (some (.agg (nodeA ⟨0,⟨0,0,0,ByteArray.mk #[],false,0⟩,ByteArray.mk #[],⟨0,0,0,0,false,false⟩,⟨0,0,0,0,false,false⟩,0⟩ none 0 0)),22,192):=by kernel_rfl
theorem undNs : Tryz.prog.underlying 52 = some (.slice 54):=by kernel_rfl
theorem nodeA_all (d : ND) (A : Option Addr) (n c : Nat) : (nodeA d A n c)[0]? = some (.int .i64 d.kind) ∧ (nodeA d A n c)[1]? = some (.int .i64 d.v.k) ∧ (nodeA d A n c)[2]? = some (.int .i64 d.v.mant) ∧ (nodeA d A n c)[3]? = some (.int .i64 d.v.exp) ∧ (nodeA d A n c)[4]? = some (.string d.v.text) ∧ (nodeA d A n c)[5]? = some (.bool d.v.truth) ∧ (nodeA d A n c)[6]? = some (.int .i64 d.v.fault) ∧ (nodeA d A n c)[7]? = some (.string d.name) ∧ (nodeA d A n c)[8]? = some (.int .i64 d.a.ra) ∧ (nodeA d A n c)[9]? = some (.int .i64 d.a.rn) ∧ (nodeA d A n c)[10]? = some (.int .i64 d.a.ca) ∧ (nodeA d A n c)[11]? = some (.int .i64 d.a.cn) ∧ (nodeA d A n c)[12]? = some (.bool d.a.fr) ∧ (nodeA d A n c)[13]? = some (.bool d.a.fc) ∧ (nodeA d A n c)[14]? = some (.int .i64 d.b.ra) ∧ (nodeA d A n c)[15]? = some (.int .i64 d.b.rn) ∧ (nodeA d A n c)[16]? = some (.int .i64 d.b.ca) ∧ (nodeA d A n c)[17]? = some (.int .i64 d.b.cn) ∧ (nodeA d A n c)[18]? = some (.bool d.b.fr) ∧ (nodeA d A n c)[19]? = some (.bool d.b.fc) ∧ (nodeA d A n c)[20]? = some (.int .i64 d.rows) ∧ (nodeA d A n c)[21]? = some (.slice A n c) :=
 ⟨rfl,rfl,rfl,rfl,rfl,rfl,rfl,rfl,rfl,rfl,rfl,rfl,rfl,rfl,rfl,rfl,rfl,rfl,rfl,rfl,rfl,rfl⟩
theorem still_mid {P : Program} {ops : Array Oper} {rest : List Oper} {op : Oper} {a : Act} {w : World} {Q : Act → Prop} (hw : Region.wanted op (yielded ops a.tmps) = true) (ty : TypeId) (x : Operand) (ho : op.op = .load ty x)
 (b o : Nat) (hx : a.eval x = .pointer (some ⟨b,o,none⟩)) (cs : List Value) (d : TypeDesc) (hc : w.rangeAt b o cs)
 (hu : P.underlying ty = some d) (hd : d.isRow = true) (hi : (P.info? ty).map (·.size) = some cs.length)
 (h : wpStill P ops w Q rest (a.put op.dst (.agg cs.toArray))) : wpStill P ops w Q (op :: rest) a:=by
 unfold wpStill
 rw [if_pos hw]
 unfold Oper.still execOp
 simp only [ho,hx,Instr.loadAt,Instr.sureAddr,Sem.run_bind,Sem.run_pure,Result.andThen_ok,run_loadVar_mid w b o ty cs d hc hu hd hi]
 exact ⟨rfl,h⟩
end Go.Proofs.YtjobojfaocihfaaGreat
namespace Go.Proofs.YtjobojfaocihfaaGreat
set_option maxRecDepth 100000
open Go.RowKit Go.Shelf
theorem KidsAt.row {w : World} {B b : Nat} : ∀ {l : List Tr} {o : Nat},KidsAt w B b o l → ∃ xs,NRow w B l xs ∧ ∀ j u,xs[j]? = some u → w.cell? ⟨b,o + j,none⟩ = some u
 | [],_,_ => ⟨[],by simp [NRow],fun j u h => by simp at h⟩
 | t :: ts,o,h => by
  simp only [KidsAt] at h
  obtain ⟨hn,hk⟩:=h
  obtain ⟨h1,h2,A,c,h3,h4⟩:=hn.open_
  obtain ⟨ys,h5,h6⟩:=KidsAt.row hk
  refine ⟨(t.d.head ++ [.slice A t.l.length c]) ++ ys,⟨_,ys,rfl,⟨A,c,rfl,h2,h4⟩,h5⟩,fun j u hu => ?_⟩
  have hl : (t.d.head ++ [Value.slice A t.l.length c]).length = 22:=rfl
  by_cases hj : j < 22
  · rw [List.getElem?_append_left (by rw [hl]; exact hj)] at hu
    have e : (nodeA t.d A t.l.length c)[j]? = (t.d.head ++ [Value.slice A t.l.length c])[j]?:=by simp [nodeA]
    exact (h3 j hj).trans (e.trans hu)
  · rw [List.getElem?_append_right (by rw [hl]; omega),hl] at hu
    have:=h6 (j - 22) u hu
    rwa [show o + 22 + (j - 22) = o + j by omega] at this
theorem SlAt.row {w : World} {B : Nat} {A : Option Addr} {c : Nat} {l : List Tr} (h : SlAt w B A c l) : ∃ xs,NRow w B l xs ∧ ((l = [] ∧ xs = []) ∨ ∃ b o,A = some ⟨b,o,none⟩ ∧ ∀ j u,xs[j]? = some u → w.cell? ⟨b,o + j,none⟩ = some u):=by
 rcases h.2.2 with rfl | ⟨b,o,hA,hk⟩
 · exact ⟨[],by simp [NRow],.inl ⟨rfl,rfl⟩⟩
 · obtain ⟨xs,h1,h2⟩:=hk.row
   exact ⟨xs,h1,.inr ⟨b,o,hA,h2⟩⟩
def ClonePost (w : World) (B : Nat) (l : List Tr) (e : Ending) (w' : World) : Prop:=∃ v xs,e = .returned v ∧ w'.ownsRow w.heap.size 54 22 v l.length xs ∧ NRow w B l xs ∧ Below w.heap.size w w'
theorem clone_c (w : World) (B : Nat) (A : Option Addr) (c : Nat) (l : List Tr) (hs : SlAt w B A c l) (hz : l.length ≤ 1048576) : Calls Tryz.prog 134 #[.slice A l.length c] w (ClonePost w B l):=by
 obtain ⟨xs,hx1,hx2⟩:=hs.row
 have hlen:=hx1.len
 have HX:=Jh hx1
 have HLN:=Jh hlen
 have h1:=hs.1
 have h2:=hs.2.1
 have HS:=Jh hs
 obtain ⟨ti,hti,hz0,hz1,hz2⟩:=info_parts infoN
 clear hx1 hlen hs
 cases A with
 | none =>
  obtain ⟨rfl,rfl⟩ : l = [] ∧ xs = []:=by
   rcases hx2 with h | ⟨b,o,h,_⟩
   · exact h
   · cases h
  clear hx2
  simp only [List.length_nil]
  have e1:=fun w => Lib.run_eql_slice_nil (P:=Tryz.prog) w 52 54 none 0 c 0 0 undNs
  go_enter Tryz.func134,Tryz.ntmps134
  go_wp2
  go_ret
  exact ⟨_,[],rfl,⟨rfl,.inl ⟨rfl,rfl⟩⟩,HX.out,Below.refl _ _⟩
 | some p =>
  obtain ⟨n,hn⟩ : ∃ n,n = l.length:=⟨_,rfl⟩
  rw [← hn] at h1 hz ⊢
  have HN:=Jh hn
  have hlx : xs.length = n * 22:=by rw [hn]; exact HLN.out
  have HLX:=Jh hlx
  have hp : ∀ j u,xs[j]? = some u → (w.alloc (.cells #[] 54)).cell? (p.add j) = some u:=by
   rcases hx2 with ⟨_,rfl⟩ | ⟨b,o,hA,h⟩
   · intro j u hu; simp at hu
   · intro j u hu
     obtain rfl : p = ⟨b,o,none⟩:=Option.some.inj hA
     have e:=h j u hu
     have hadd : (⟨b,o,none⟩ : Addr).add j = ⟨b,o + j,none⟩:=by unfold Addr.add; split <;> simp_all
     rw [hadd]
     exact (World.cell?_alloc_some _ _ _ (by rw [e]; rfl)).trans e
  have e1:=fun w => Lib.run_eql_slice_nil (P:=Tryz.prog) w 52 54 (some p) n c 0 0 undNs
  have hp1:=HX.out.one
  have hown : (w.alloc (.cells #[] 54)).ownsRow w.heap.size 54 22 (.slice (some ⟨w.heap.size,0,none⟩) 0 0) 0 []:=⟨rfl,.inr ⟨w.heap.size,0,#[],rfl,Nat.le_refl _,World.alloc_heap_new w _,Nat.le_refl _,Nat.zero_le _,rfl,rfl⟩⟩
  have HOW:=Jh hown
  clear hown
  have HP:=Jh hp
  have HP1:=Jh hp1
  clear hn hx2 hlx hp hp1
  go_enter Tryz.func134,Tryz.ntmps134
  go_wp2_with (at_builtin; refine wpList_append_own _ rfl _ _ 52 rfl w.heap.size 54 ti _ 22 192 undNs hti hz0 hz1 hz2 rfl (by decide) _ 0 [] rfl HOW.out p n c xs rfl HLX.out HP.out HP1.out (by unfold maxLen; omega) (by omega) (by simp) ?_; intro v' w3 hown3 hgrow hnil)
  have HO3:=Jh hown3
  have HG:=Jh hgrow
  clear hown3 hgrow hnil
  go_wp2
  go_ret
  refine ⟨v',xs,rfl,?_,HX.out,?_⟩
  · have h3:=HO3.out
    rw [Nat.zero_add,List.nil_append] at h3
    rw [← HN.out]; exact h3
  · exact ((Below.refl _ w).alloc (Nat.le_refl _) _).grown HG.out (by simp) (fun k e => by have e2 : (some w.heap.size : Option Nat) = some k:=e; have:=Option.some.inj e2; omega)
end Go.Proofs.YtjobojfaocihfaaGreat
namespace Go.Proofs.YtjobojfaocihfaaGreat
open Go.RowKit
inductive PT where
 | mk (b o : Nat) (d : ND) (p : List Tr) (l : List PT)
structure It where
 b : Nat
 o : Nat
 d : ND
 p : List Tr
 ks : List (Nat × Nat)
def It.ad (x : It) : Nat × Nat:=(x.b,x.o)
def PT.ad : PT → Nat × Nat | .mk b o _ _ _ => (b,o)
theorem PT.ind {P : PT → Prop} (h : ∀ b o d p l,(∀ t ∈ l,P t) → P (.mk b o d p l)) (t : PT) : P t :=
 PT.rec (motive_1:=P) (motive_2:=fun l => ∀ t ∈ l,P t) (fun b o d p l ih => h b o d p l ih) (fun t ht => by cases ht)
  (fun t ts iht ihts x hx => by
   rcases List.mem_cons.1 hx with rfl | hx
   · exact iht
   · exact ihts x hx) t
mutual
def PT.tr : PT → Tr
 | .mk _ _ d p l => .mk d (p ++ PT.trs l)
def PT.trs : List PT → List Tr
 | [] => []
 | t :: ts => t.tr :: PT.trs ts
end
mutual
def PT.its : PT → List It
 | .mk b o d p l => ⟨b,o,d,p,l.map PT.ad⟩ :: PT.itss l
def PT.itss : List PT → List It
 | [] => []
 | t :: ts => t.its ++ PT.itss ts
end
mutual
def PT.sub (b o : Nat) (k : List PT) : PT → PT
 | .mk b' o' d p l => if b' = b ∧ o' = o then .mk b' o' d [] k else .mk b' o' d p (PT.subs b o k l)
def PT.subs (b o : Nat) (k : List PT) : List PT → List PT
 | [] => []
 | t :: ts => PT.sub b o k t :: PT.subs b o k ts
end
theorem PT.trs_map : ∀ l : List PT,PT.trs l = l.map PT.tr
 | [] => by simp [PT.trs]
 | t :: ts => by simp [PT.trs,PT.trs_map ts]
theorem PT.itss_flat : ∀ l : List PT,PT.itss l = l.flatMap PT.its
 | [] => by simp [PT.itss]
 | t :: ts => by simp [PT.itss,PT.itss_flat ts]
theorem PT.subs_map (b o : Nat) (k : List PT) : ∀ l : List PT,PT.subs b o k l = l.map (PT.sub b o k)
 | [] => by simp [PT.subs]
 | t :: ts => by simp [PT.subs,PT.subs_map b o k ts]
theorem PT.tr_mk (b o : Nat) (d : ND) (p : List Tr) (l : List PT) : (PT.mk b o d p l).tr = .mk d (p ++ l.map PT.tr):=by simp [PT.tr,PT.trs_map]
theorem PT.its_mk (b o : Nat) (d : ND) (p : List Tr) (l : List PT) : (PT.mk b o d p l).its = ⟨b,o,d,p,l.map PT.ad⟩ :: l.flatMap PT.its:=by simp [PT.its,PT.itss_flat]
theorem PT.sub_mk (b o : Nat) (k : List PT) (b' o' : Nat) (d : ND) (p : List Tr) (l : List PT) : (PT.mk b' o' d p l).sub b o k = if b' = b ∧ o' = o then .mk b' o' d [] k else .mk b' o' d p (l.map (PT.sub b o k)):=by
 rw [PT.sub,PT.subs_map]
theorem PT.ad_sub (b o : Nat) (k : List PT) (x : PT) : (x.sub b o k).ad = x.ad:=by
 obtain ⟨b',o',d,p,l⟩:=x
 rw [PT.sub_mk]
 split <;> rfl
def PT.adrs (x : PT) : List (Nat × Nat):=x.its.map It.ad
theorem PT.adrs_mk (b o : Nat) (d : ND) (p : List Tr) (l : List PT) : (PT.mk b o d p l).adrs = (b,o) :: l.flatMap PT.adrs:=by
 simp only [PT.adrs,PT.its_mk,List.map_cons,List.map_flatMap]
 rfl
theorem PT.sub_none (b o : Nat) (k : List PT) (x : PT) : (b,o) ∉ x.adrs → x.sub b o k = x:=by
 induction x using PT.ind with
 | _ b' o' d p l ih =>
  intro h
  rw [PT.adrs_mk] at h
  simp only [List.mem_cons,List.mem_flatMap,not_or,not_exists,not_and] at h
  rw [PT.sub_mk,if_neg (fun e => h.1 (by rw [e.1,e.2]))]
  congr 1
  conv => rhs; rw [← List.map_id l]
  exact List.map_congr_left fun t ht => ih t ht (h.2 t ht)
theorem PT.its_sub (b o : Nat) (k : List PT) (x : PT) : ∀ i ∈ (x.sub b o k).its,(i ∈ x.its ∧ i.ad ≠ (b,o)) ∨ i ∈ k.flatMap PT.its ∨ (i.ad = (b,o) ∧ i.p = [] ∧ i.ks = k.map PT.ad ∧ ∃ j ∈ x.its,j.ad = (b,o) ∧ i.d = j.d):=by
 induction x using PT.ind with
 | _ b' o' d p l ih =>
  intro i hi
  rw [PT.sub_mk] at hi
  by_cases e : b' = b ∧ o' = o
  · rw [if_pos e,PT.its_mk] at hi
    rcases List.mem_cons.1 hi with rfl | hi
    · exact .inr (.inr ⟨by simp [It.ad,e.1,e.2],rfl,rfl,⟨b',o',d,p,l.map PT.ad⟩,by rw [PT.its_mk]; simp,by simp [It.ad,e.1,e.2],rfl⟩)
    · exact .inr (.inl hi)
  · rw [if_neg e,PT.its_mk] at hi
    rcases List.mem_cons.1 hi with rfl | hi
    · refine .inl ⟨?_,fun h => e (by simpa [It.ad] using h)⟩
      rw [PT.its_mk,List.map_map]
      have : (l.map (PT.ad ∘ PT.sub b o k)) = l.map PT.ad:=List.map_congr_left fun t _ => PT.ad_sub b o k t
      rw [this]; simp
    · rw [List.flatMap_map] at hi
      obtain ⟨t,ht,hit⟩:=List.mem_flatMap.1 hi
      rcases ih t ht i hit with ⟨h1,h2⟩ | h | ⟨h1,h2,h3,j,h4,h5⟩
      · exact .inl ⟨by rw [PT.its_mk]; exact List.mem_cons_of_mem _ (List.mem_flatMap.2 ⟨t,ht,h1⟩),h2⟩
      · exact .inr (.inl h)
      · exact .inr (.inr ⟨h1,h2,h3,j,by rw [PT.its_mk]; exact List.mem_cons_of_mem _ (List.mem_flatMap.2 ⟨t,ht,h4⟩),h5⟩)
theorem PT.mem_sub (b o : Nat) (k : List PT) (x : PT) : (∀ j ∈ x.its,j.ad = (b,o) → j.ks = []) → ∀ i ∈ x.its,i.ad ≠ (b,o) → i ∈ (x.sub b o k).its:=by
 induction x using PT.ind with
 | _ b' o' d p l ih =>
  intro hl i hi hn
  rw [PT.sub_mk]
  by_cases e : b' = b ∧ o' = o
  · have h0:=hl ⟨b',o',d,p,l.map PT.ad⟩ (by rw [PT.its_mk]; simp) (by simp [It.ad,e.1,e.2])
    have h1 : l = []:=by simpa using h0
    subst h1
    rw [PT.its_mk] at hi
    simp only [List.map_nil,List.flatMap_nil,List.mem_singleton] at hi
    subst hi
    exact absurd (by simp [It.ad,e.1,e.2]) hn
  · rw [if_neg e,PT.its_mk]
    rw [PT.its_mk] at hi
    rcases List.mem_cons.1 hi with rfl | hi
    · have : ((l.map (PT.sub b o k)).map PT.ad) = l.map PT.ad:=by rw [List.map_map]; exact List.map_congr_left fun t _ => PT.ad_sub b o k t
      rw [this]; simp
    · obtain ⟨t,ht,hit⟩:=List.mem_flatMap.1 hi
      refine List.mem_cons_of_mem _ (List.mem_flatMap.2 ⟨t.sub b o k,List.mem_map.2 ⟨t,ht,rfl⟩,ih t ht (fun j hj => hl j ?_) i hit hn⟩)
      rw [PT.its_mk]; exact List.mem_cons_of_mem _ (List.mem_flatMap.2 ⟨t,ht,hj⟩)
theorem PT.new_sub (b o : Nat) (k : List PT) (x : PT) : (b,o) ∈ x.adrs → ∀ i ∈ k.flatMap PT.its,i ∈ (x.sub b o k).its:=by
 induction x using PT.ind with
 | _ b' o' d p l ih =>
  intro h i hi
  rw [PT.sub_mk]
  by_cases e : b' = b ∧ o' = o
  · rw [if_pos e,PT.its_mk]; exact List.mem_cons_of_mem _ hi
  · rw [if_neg e,PT.its_mk]
    rw [PT.adrs_mk] at h
    rcases List.mem_cons.1 h with h | h
    · simp only [Prod.mk.injEq] at h; exact absurd ⟨h.1.symm,h.2.symm⟩ e
    · obtain ⟨t,ht,hit⟩:=List.mem_flatMap.1 h
      exact List.mem_cons_of_mem _ (List.mem_flatMap.2 ⟨t.sub b o k,List.mem_map.2 ⟨t,ht,rfl⟩,ih t ht hit i hi⟩)
theorem nodup_part {A B : Type} {f : A → List B} : ∀ {l : List A} {t : A},(l.flatMap f).Nodup → t ∈ l → (f t).Nodup
 | a :: l,t,h,ht => by
  rw [List.flatMap_cons,List.nodup_append] at h
  rcases List.mem_cons.1 ht with rfl | ht
  · exact h.1
  · exact nodup_part h.2.1 ht
theorem PT.self_sub (b o : Nat) (k : List PT) (x : PT) : ∀ j ∈ x.its,j.ad = (b,o) → x.adrs.Nodup → (⟨b,o,j.d,[],k.map PT.ad⟩ : It) ∈ (x.sub b o k).its:=by
 induction x using PT.ind with
 | _ b' o' d p l ih =>
  intro j hj hja hnd
  rw [PT.sub_mk]
  rw [PT.its_mk] at hj
  rw [PT.adrs_mk] at hnd
  by_cases e : b' = b ∧ o' = o
  · rw [if_pos e,PT.its_mk]
    obtain ⟨rfl,rfl⟩:=e
    rcases List.mem_cons.1 hj with rfl | hj
    · simp
    · exfalso
      obtain ⟨t,ht,hit⟩:=List.mem_flatMap.1 hj
      exact (List.nodup_cons.1 hnd).1 (List.mem_flatMap.2 ⟨t,ht,List.mem_map.2 ⟨j,hit,hja⟩⟩)
  · rw [if_neg e,PT.its_mk]
    rcases List.mem_cons.1 hj with rfl | hj
    · exact absurd (by simpa [It.ad] using hja) e
    · obtain ⟨t,ht,hit⟩:=List.mem_flatMap.1 hj
      have h2:=(List.nodup_cons.1 hnd).2
      have h3 : t.adrs.Nodup:=nodup_part h2 ht
      exact List.mem_cons_of_mem _ (List.mem_flatMap.2 ⟨t.sub b o k,List.mem_map.2 ⟨t,ht,rfl⟩,ih t ht j hit hja h3⟩)
theorem PT.tr_sub (b o : Nat) (k : List PT) (x : PT) : (∀ j ∈ x.its,j.ad = (b,o) → j.p = k.map PT.tr ∧ j.ks = []) → (x.sub b o k).tr = x.tr:=by
 induction x using PT.ind with
 | _ b' o' d p l ih =>
  intro h
  rw [PT.sub_mk]
  by_cases e : b' = b ∧ o' = o
  · obtain ⟨h1,h2⟩:=h ⟨b',o',d,p,l.map PT.ad⟩ (by rw [PT.its_mk]; simp) (by simp [It.ad,e.1,e.2])
    have h3 : l = []:=by simpa using h2
    subst h3
    rw [if_pos e,PT.tr_mk,PT.tr_mk]
    simp only at h1
    simp [h1]
  · rw [if_neg e,PT.tr_mk,PT.tr_mk,List.map_map]
    congr 2
    refine List.map_congr_left fun t ht => ih t ht (fun j hj => h j ?_)
    rw [PT.its_mk]; exact List.mem_cons_of_mem _ (List.mem_flatMap.2 ⟨t,ht,hj⟩)
theorem PT.adrs_sub (b o : Nat) (k : List PT) (x : PT) : ∀ q ∈ (x.sub b o k).adrs,q ∈ x.adrs ∨ q ∈ k.flatMap PT.adrs:=by
 intro q hq
 obtain ⟨i,hi,rfl⟩:=List.mem_map.1 hq
 rcases PT.its_sub b o k x i hi with ⟨h1,_⟩ | h | ⟨h1,_,_,j,h4,h5,_⟩
 · exact .inl (List.mem_map.2 ⟨i,h1,rfl⟩)
 · obtain ⟨t,ht,hit⟩:=List.mem_flatMap.1 h
   exact .inr (List.mem_flatMap.2 ⟨t,ht,List.mem_map.2 ⟨i,hit,rfl⟩⟩)
 · exact .inl (List.mem_map.2 ⟨j,h4,h5.trans h1.symm⟩)
theorem PT.nodup_sub (b o : Nat) (k : List PT) (hk : (k.flatMap PT.adrs).Nodup) (x : PT) : x.adrs.Nodup → (∀ q ∈ k.flatMap PT.adrs,q ∉ x.adrs) → (x.sub b o k).adrs.Nodup:=by
 induction x using PT.ind with
 | _ b' o' d p l ih =>
  intro hx hd
  rw [PT.adrs_mk] at hx
  obtain ⟨h1,h2⟩:=List.nodup_cons.1 hx
  rw [PT.sub_mk]
  by_cases e : b' = b ∧ o' = o
  · rw [if_pos e,PT.adrs_mk]
    exact List.nodup_cons.2 ⟨fun h => hd _ h (by rw [PT.adrs_mk]; simp),hk⟩
  · rw [if_neg e,PT.adrs_mk]
    have hsub : ∀ t ∈ l,∀ q ∈ t.adrs,q ∈ (PT.mk b' o' d p l).adrs:=fun t ht q hq => by rw [PT.adrs_mk]; exact List.mem_cons_of_mem _ (List.mem_flatMap.2 ⟨t,ht,hq⟩)
    refine List.nodup_cons.2 ⟨fun h => ?_,?_⟩
    · rw [List.flatMap_map] at h
      obtain ⟨t,ht,hit⟩:=List.mem_flatMap.1 h
      rcases PT.adrs_sub b o k t _ hit with h | h
      · exact h1 (List.mem_flatMap.2 ⟨t,ht,h⟩)
      · exact hd _ h (by rw [PT.adrs_mk]; simp)
    · have key : ∀ m : List PT,(∀ t ∈ m,t ∈ l) → (m.flatMap PT.adrs).Nodup → (m.flatMap fun t => (t.sub b o k).adrs).Nodup:=by
       intro m
       induction m with
       | nil => intro _ _; simp
       | cons a m ihm =>
        intro hm hn
        rw [List.flatMap_cons,List.nodup_append] at hn
        obtain ⟨n1,n2,n3⟩:=hn
        have ha:=hm a (by simp)
        rw [List.flatMap_cons,List.nodup_append]
        refine ⟨ih a ha n1 (fun q hq hq2 => hd q hq (hsub a ha q hq2)),ihm (fun t ht => hm t (by simp [ht])) n2,fun q hq r hr hqr => ?_⟩
        subst hqr
        obtain ⟨t,ht,hit⟩:=List.mem_flatMap.1 hr
        have htl:=hm t (by simp [ht])
        rcases PT.adrs_sub b o k a q hq with g1 | g1 <;> rcases PT.adrs_sub b o k t q hit with g2 | g2
        · exact n3 q g1 q (List.mem_flatMap.2 ⟨t,ht,g2⟩) rfl
        · exact hd q g2 (hsub a ha q g1)
        · exact hd q g1 (hsub t htl q g2)
        · by_cases ca : (b,o) ∈ a.adrs
          · have ct : (b,o) ∉ t.adrs:=fun h => n3 _ ca _ (List.mem_flatMap.2 ⟨t,ht,h⟩) rfl
            rw [PT.sub_none b o k t ct] at hit
            exact hd q g1 (hsub t htl q hit)
          · rw [PT.sub_none b o k a ca] at hq
            exact hd q g2 (hsub a ha q hq)
      have:=key l (fun _ h => h) h2
      rwa [List.flatMap_map]
mutual
def PT.at_ : PT → AT
 | .mk b o d _ l => .mk b o d (PT.ats l)
def PT.ats : List PT → List AT
 | [] => []
 | t :: ts => t.at_ :: PT.ats ts
end
theorem PT.ats_map : ∀ l : List PT,PT.ats l = l.map PT.at_
 | [] => by simp [PT.ats]
 | t :: ts => by simp [PT.ats,PT.ats_map ts]
theorem PT.at_mk (b o : Nat) (d : ND) (p : List Tr) (l : List PT) : (PT.mk b o d p l).at_ = .mk b o d (l.map PT.at_):=by simp [PT.at_,PT.ats_map]
theorem PT.at_tr (x : PT) : (∀ i ∈ x.its,i.p = []) → x.at_.tr = x.tr:=by
 induction x using PT.ind with
 | _ b o d p l ih =>
  intro h
  have h0 : p = []:=h ⟨b,o,d,p,l.map PT.ad⟩ (by rw [PT.its_mk]; simp)
  subst h0
  rw [PT.at_mk,PT.tr_mk,AT.tr,AT.trs_map,List.map_map,List.nil_append]
  congr 1
  refine List.map_congr_left fun t ht => ih t ht (fun i hi => h i ?_)
  rw [PT.its_mk]; exact List.mem_cons_of_mem _ (List.mem_flatMap.2 ⟨t,ht,hi⟩)
end Go.Proofs.YtjobojfaocihfaaGreat
namespace Go.Proofs.YtjobojfaocihfaaGreat
open Go.RowKit Go.Shelf
def ItOk (W0 : World) (lo : Nat) (w : World) (x : It) : Prop :=
 lo ≤ x.b ∧ x.b < w.heap.size ∧ x.o % 22 = 0 ∧ x.d.ok ∧ (∀ o,w.frozen? ⟨x.b,o,none⟩ = false) ∧ ∃ A c,NodeCells w x.b x.o x.d A (x.p.length + x.ks.length) c ∧ x.p.length + x.ks.length ≤ c ∧ c ≤ 9223372036854775807 ∧
  (x.p = [] ∨ ∃ b' o',A = some ⟨b',o',none⟩ ∧ KidsAt W0 lo b' o' x.p) ∧ (x.ks = [] ∨ ∃ b',A = some ⟨b',0,none⟩ ∧ ∀ i (h : i < x.ks.length),x.ks[i] = (b',i * 22))
theorem ItOk.keep {W0 w w' : World} {lo : Nat} {x : It} (h : ItOk W0 lo w x) (hs : w.heap.size ≤ w'.heap.size) (hc : ∀ j,j < 22 → w'.cell? ⟨x.b,x.o + j,none⟩ = w.cell? ⟨x.b,x.o + j,none⟩) (hf : ∀ o,w'.frozen? ⟨x.b,o,none⟩ = w.frozen? ⟨x.b,o,none⟩) : ItOk W0 lo w' x:=by
 obtain ⟨h1,h2,h3,h4,h5,A,c,h6,h7⟩:=h
 exact ⟨h1,by omega,h3,h4,fun o => (hf o).trans (h5 o),A,c,fun j hj => (hc j hj).trans (h6 j hj),h7⟩
theorem ItOk.block {W0 w w' : World} {lo : Nat} {x : It} (h : ItOk W0 lo w x) (hs : w.heap.size ≤ w'.heap.size) (hb : w'.heap[x.b]? = w.heap[x.b]?) : ItOk W0 lo w' x :=
 h.keep hs (fun j _ => World.cell?_of_block (a:=⟨x.b,x.o + j,none⟩) hb) (fun o => by unfold World.frozen?; rw [hb])
theorem ItOk.below {W0 w w' : World} {lo : Nat} {x : It} (h : ItOk W0 lo w x) (hb : Below w.heap.size w w') : ItOk W0 lo w' x:=h.block hb.size (hb.block x.b h.2.1)
theorem heap_setCell_other (w : World) (a : Addr) (v : Value) (g : Nat) (h : g ≠ a.block) : (w.setCell a v).heap[g]? = w.heap[g]?:=by
 simp [World.setCell,Array.getElem?_modify,Ne.symm h]
theorem size_setCell (w : World) (a : Addr) (v : Value) : (w.setCell a v).heap.size = w.heap.size:=by simp [World.setCell]
theorem ItOk.other {W0 w : World} {lo : Nat} {x : It} (h : ItOk W0 lo w x) {b o : Nat} (ho : o % 22 = 0) (hn : x.ad ≠ (b,o)) (v : Value) : ItOk W0 lo (w.setCell ⟨b,o + 21,none⟩ v) x:=by
 refine h.keep (by rw [size_setCell]; exact Nat.le_refl _) (fun j hj => World.cell?_setCell_other _ _ _ _ (fun e => hn ?_)) (fun o' => World.frozen?_setCell _ _ _ _)
 simp only [Addr.mk.injEq,and_true] at e
 have h3:=h.2.2.1
 simp only [It.ad,Prod.mk.injEq]
 omega
theorem NodeCells.last {w : World} {b o : Nat} {d : ND} {A A' : Option Addr} {n c n' c' : Nat} (h : NodeCells w b o d A n c) : NodeCells (w.setCell ⟨b,o + 21,none⟩ (.slice A' n' c')) b o d A' n' c':=by
 intro j hj
 by_cases hj2 : j = 21
 · subst hj2
   rw [World.cell?_setCell_same (u:=.slice A n c) _ _ _ (h 21 (by decide))]
   rfl
 · rw [World.cell?_setCell_other _ _ _ _ (fun e => by simp only [Addr.mk.injEq,and_true] at e; omega),h j hj]
   have e : ∀ (A : Option Addr) (n c : Nat),(nodeA d A n c)[j]? = d.head[j]?:=fun A n c => by
    have h1 : (nodeA d A n c)[j]? = (d.head ++ [Value.slice A n c])[j]?:=by simp [nodeA]
    have hl : d.head.length = 21:=rfl
    rw [h1,List.getElem?_append_left (by rw [hl]; omega)]
   rw [e,e]
theorem ItOk.nil {W0 w : World} {lo : Nat} {x : It} (h : ItOk W0 lo w x) (hp : x.p = []) (hk : x.ks = []) : ItOk W0 lo (w.setCell ⟨x.b,x.o + 21,none⟩ (.slice none 0 0)) x:=by
 obtain ⟨h1,h2,h3,h4,h5,A,c,h6,h7,h8,h9,h10⟩:=h
 refine ⟨h1,by rw [size_setCell]; exact h2,h3,h4,fun o => (World.frozen?_setCell _ _ _ _).trans (h5 o),none,0,?_,by rw [hp,hk]; exact Nat.le_refl _,by omega,.inl hp,.inl hk⟩
 rw [hp,hk]
 exact h6.last
def kidsOf (b : Nat) : Nat → List Tr → List PT
 | _,[] => []
 | o,t :: ts => .mk b o t.d t.l [] :: kidsOf b (o + 22) ts
theorem kidsOf_len (b : Nat) : ∀ (o : Nat) (l : List Tr),(kidsOf b o l).length = l.length
 | _,[] => rfl
 | o,t :: ts => by simp [kidsOf,kidsOf_len b (o + 22) ts]
theorem kidsOf_tr (b : Nat) : ∀ (o : Nat) (l : List Tr),(kidsOf b o l).map PT.tr = l
 | _,[] => rfl
 | o,t :: ts => by simp only [kidsOf,List.map_cons,kidsOf_tr b (o + 22) ts,PT.tr_mk,List.map_nil,List.append_nil,← Tr.eta]
theorem kidsOf_ad (b : Nat) : ∀ (o : Nat) (l : List Tr) (i : Nat) (h : i < ((kidsOf b o l).map PT.ad).length),((kidsOf b o l).map PT.ad)[i] = (b,o + i * 22)
 | _,[],i,h => by simp [kidsOf] at h
 | o,t :: ts,0,_ => by simp [kidsOf,PT.ad]
 | o,t :: ts,i + 1,h => by
  simp only [kidsOf,List.map_cons,List.getElem_cons_succ]
  rw [kidsOf_ad b (o + 22) ts i (by simpa [kidsOf] using h)]
  congr 1; omega
def itsOf (b : Nat) : Nat → List Tr → List It
 | _,[] => []
 | o,t :: ts => ⟨b,o,t.d,t.l,[]⟩ :: itsOf b (o + 22) ts
theorem kidsOf_its (b : Nat) : ∀ (o : Nat) (l : List Tr),(kidsOf b o l).flatMap PT.its = itsOf b o l
 | _,[] => rfl
 | o,t :: ts => by simp only [kidsOf,List.flatMap_cons,kidsOf_its b (o + 22) ts,PT.its_mk,List.map_nil,List.flatMap_nil,itsOf,List.cons_append,List.nil_append]
theorem itsOf_len (b : Nat) : ∀ (o : Nat) (l : List Tr),(itsOf b o l).length = l.length
 | _,[] => rfl
 | o,t :: ts => by simp [itsOf,itsOf_len b (o + 22) ts]
theorem itsOf_get (b : Nat) : ∀ (o : Nat) (l : List Tr) (i : Nat) (h : i < l.length) (h' : i < (itsOf b o l).length),(itsOf b o l)[i] = ⟨b,o + i * 22,l[i].d,l[i].l,[]⟩
 | _,[],i,h,_ => by simp at h
 | o,t :: ts,0,_,_ => by simp [itsOf]
 | o,t :: ts,i + 1,h,h' => by
  simp only [itsOf,List.getElem_cons_succ]
  rw [itsOf_get b (o + 22) ts i (by simpa using h) (by simpa [itsOf] using h')]
  congr 1; omega
theorem itsOf_mem (b o : Nat) (l : List Tr) : ∀ x ∈ itsOf b o l,∃ i,∃ h : i < l.length,x = ⟨b,o + i * 22,l[i].d,l[i].l,[]⟩:=by
 intro x hx
 obtain ⟨i,hi,rfl⟩:=List.mem_iff_getElem.1 hx
 have hl : i < l.length:=by rw [itsOf_len] at hi; exact hi
 exact ⟨i,hl,itsOf_get b o l i hl hi⟩
theorem kidsOf_adrs (b o : Nat) (l : List Tr) : (kidsOf b o l).flatMap PT.adrs = (itsOf b o l).map It.ad:=by
 rw [← kidsOf_its,List.map_flatMap]; rfl
theorem itsOf_nodup (b : Nat) : ∀ (o : Nat) (l : List Tr),((itsOf b o l).map It.ad).Nodup
 | _,[] => by simp [itsOf]
 | o,t :: ts => by
  simp only [itsOf,List.map_cons]
  refine List.nodup_cons.2 ⟨fun h => ?_,itsOf_nodup b (o + 22) ts⟩
  obtain ⟨x,hx,he⟩:=List.mem_map.1 h
  obtain ⟨i,hi,rfl⟩:=itsOf_mem b (o + 22) ts x hx
  simp only [It.ad,Prod.mk.injEq,true_and] at he
  omega
theorem itsOf_ok {W0 w1 w : World} {lo b : Nat} (hlo : lo ≤ b) (hb : b < w.heap.size) (hf : ∀ o,w.frozen? ⟨b,o,none⟩ = false) (hk : Below lo W0 w1) : ∀ {l : List Tr} {xs : List Value} {o : Nat},NRow w1 lo l xs → o % 22 = 0 → (∀ j u,xs[j]? = some u → w.cell? ⟨b,o + j,none⟩ = some u) → ∀ x ∈ itsOf b o l,ItOk W0 lo w x
 | [],xs,o,_,_,_,x,hx => by simp [itsOf] at hx
 | t :: ts,xs,o,h,ho,hc,x,hx => by
  simp only [NRow] at h
  obtain ⟨cs,ys,rfl,h1,h2⟩:=h
  have hl:=h1.len
  rcases List.mem_cons.1 hx with rfl | hx
  · obtain ⟨A,c,rfl,hd,hs⟩:=h1
    refine ⟨hlo,hb,ho,hd,hf,A,c,fun j hj => ?_,by simpa using hs.1,hs.2.1,?_,.inl rfl⟩
    · obtain ⟨u,hu⟩ : ∃ u,(t.d.head ++ [Value.slice A t.l.length c])[j]? = some u:=⟨_,List.getElem?_eq_getElem (by rw [hl]; exact hj)⟩
      have h1 : (nodeA t.d A (t.l.length + ([] : List (Nat × Nat)).length) c)[j]? = (t.d.head ++ [Value.slice A t.l.length c])[j]?:=by simp [nodeA]
      refine Eq.trans ?_ h1.symm
      rw [hu]
      exact hc j u (by rw [List.getElem?_append_left (by rw [hl]; exact hj)]; exact hu)
    · rcases hs.2.2 with h | ⟨b',o',hA,hks⟩
      · exact .inl h
      · refine .inr ⟨b',o',hA,KidsAt.of (fun i hi => NodeAt.keep (fun p hp => (hk.cell hp).symm) _ _ _ (hks.get i hi))⟩
  · refine itsOf_ok hlo hb hf hk h2 (by omega) (fun j u hu => ?_) x hx
    have:=hc (22 + j) u (by rw [List.getElem?_append_right (by rw [hl]; omega),hl]; simpa using hu)
    rwa [show o + 22 + j = o + (22 + j) by omega]
end Go.Proofs.YtjobojfaocihfaaGreat
namespace Go.Proofs.YtjobojfaocihfaaGreat
open Go.RowKit Go.Shelf
structure Cop (W0 : World) (lo : Nat) (t : Tr) (w : World) (a : PT) : Prop where
 tr : a.tr = t
 ad : a.ad = (lo,0)
 nodup : a.adrs.Nodup
 ok : ∀ x ∈ a.its,ItOk W0 lo w x
theorem Cop.block {W0 w w' : World} {lo : Nat} {t : Tr} {a : PT} (h : Cop W0 lo t w a) (hs : w.heap.size ≤ w'.heap.size) (hb : ∀ x ∈ a.its,w'.heap[x.b]? = w.heap[x.b]?) : Cop W0 lo t w' a :=
 ⟨h.tr,h.ad,h.nodup,fun x hx => (h.ok x hx).block hs (hb x hx)⟩
theorem ad_inj {a : PT} (h : a.adrs.Nodup) {x y : It} (hx : x ∈ a.its) (hy : y ∈ a.its) (e : x.ad = y.ad) : x = y:=by
 have key : ∀ l : List It,(l.map It.ad).Nodup → x ∈ l → y ∈ l → x = y:=by
  intro l
  induction l with
  | nil => intro _ h; cases h
  | cons z l ih =>
   intro hn hx hy
   rw [List.map_cons,List.nodup_cons] at hn
   rcases List.mem_cons.1 hx with g | g <;> rcases List.mem_cons.1 hy with g' | g'
   · rw [g,g']
   · exact absurd (List.mem_map.2 ⟨y,g',by rw [← e,g]⟩) hn.1
   · exact absurd (List.mem_map.2 ⟨x,g,by rw [e,g']⟩) hn.1
   · exact ih hn.2 g g'
 exact key _ h hx hy
structure Stepped (W0 : World) (lo : Nat) (t : Tr) (w3 : World) (a : PT) (x : It) (kb : Nat) (a' : PT) : Prop where
 cop : Cop W0 lo t w3 a'
 pend : ∀ i ∈ a'.its,i.p ≠ [] → i ∈ itsOf kb 0 x.p ∨ (i ∈ a.its ∧ i.ad ≠ x.ad)
 stay : ∀ i ∈ a.its,i.ad ≠ x.ad → i ∈ a'.its
 kids : ∀ i ∈ itsOf kb 0 x.p,i ∈ a'.its
 blocks : ∀ i ∈ a'.its,i.b = kb ∨ ∃ j ∈ a.its,i.b = j.b
theorem pt_step {W0 wr w2 : World} {lo : Nat} {t : Tr} {a : PT} (hc : Cop W0 lo t wr a) (hW : Below lo W0 wr) {x : It} (hx : x ∈ a.its) (hk : x.ks = []) {A' : Option Addr} {cap kb : Nat} {xs : List Value} (hlo : lo ≤ wr.heap.size) (hb : Below wr.heap.size wr w2) (hrow : NRow wr lo x.p xs) (hcap : x.p.length ≤ cap) (hcm : cap ≤ 9223372036854775807) (hkb : wr.heap.size ≤ kb)
 (hA : (x.p = [] ∧ xs = []) ∨ (A' = some ⟨kb,0,none⟩ ∧ kb < w2.heap.size ∧ (∀ o,w2.frozen? ⟨kb,o,none⟩ = false) ∧ ∀ j u,xs[j]? = some u → w2.cell? ⟨kb,j,none⟩ = some u)) :
 Stepped W0 lo t (w2.setCell ⟨x.b,x.o + 21,none⟩ (.slice A' x.p.length cap)) a x kb (a.sub x.b x.o (kidsOf kb 0 x.p)):=by
 obtain ⟨b,o,d,p,ks⟩:=x
 simp only at hk hrow hcap hA hx ⊢
 subst hk
 have hxo:=hc.ok _ hx
 have hone : ∀ j ∈ a.its,j.ad = (b,o) → j = ⟨b,o,d,p,[]⟩:=fun j hj e => ad_inj hc.nodup hj hx e
 have hmem : (b,o) ∈ a.adrs:=List.mem_map.2 ⟨_,hx,rfl⟩
 have hnew : ∀ q ∈ (kidsOf kb 0 p).flatMap PT.adrs,q ∉ a.adrs:=by
  intro q hq hq2
  rw [kidsOf_adrs] at hq
  obtain ⟨y,hy,rfl⟩:=List.mem_map.1 hq
  obtain ⟨i,hi,rfl⟩:=itsOf_mem _ _ _ y hy
  obtain ⟨z,hz,he⟩:=List.mem_map.1 hq2
  have:=(hc.ok z hz).2.1
  simp only [It.ad,Prod.mk.injEq] at he
  omega
 have hbne : b < wr.heap.size:=hxo.2.1
 have hkids : ∀ y ∈ itsOf kb 0 p,ItOk W0 lo (w2.setCell ⟨b,o + 21,none⟩ (.slice A' p.length cap)) y:=by
  rcases hA with ⟨rfl,-⟩ | ⟨-,h1,h2,h3⟩
  · intro y hy; simp [itsOf] at hy
  · refine itsOf_ok (w1:=wr) (by omega) (by rw [size_setCell]; exact h1) (fun o' => (World.frozen?_setCell _ _ _ _).trans (h2 o')) hW hrow rfl (fun j u hu => ?_)
    rw [World.cell?_setCell_other _ _ _ _ (fun e => by simp only [Addr.mk.injEq] at e; omega),Nat.zero_add]
    exact h3 j u hu
 refine ⟨⟨?_,?_,?_,?_⟩,?_,?_,?_,?_⟩
 · rw [PT.tr_sub,hc.tr]
   intro j hj e
   rw [hone j hj e,kidsOf_tr]
   exact ⟨rfl,rfl⟩
 · rw [PT.ad_sub]; exact hc.ad
 · exact PT.nodup_sub _ _ _ (by rw [kidsOf_adrs]; exact itsOf_nodup _ _ _) _ hc.nodup hnew
 · intro y hy
   rcases PT.its_sub _ _ _ _ y hy with ⟨h1,h2⟩ | h | ⟨h1,h2,h3,j,h4,h5,h6⟩
   · exact ((hc.ok y h1).below hb).other hxo.2.2.1 h2 _
   · rw [kidsOf_its] at h
     exact hkids y h
   · obtain ⟨b',o',d',p',ks'⟩:=y
     simp only [It.ad,Prod.mk.injEq] at h1
     obtain ⟨rfl,rfl⟩:=h1
     simp only at h2 h3 h6
     subst h2 h3
     rw [hone j h4 h5] at h6
     simp only at h6
     subst h6
     obtain ⟨g1,g2,g3,g4,g5,A,c,g6,g7,g8,g9,g10⟩:=hxo.below hb
     have hlen : ((kidsOf kb 0 p).map PT.ad).length = p.length:=by rw [List.length_map,kidsOf_len]
     refine ⟨g1,by rw [size_setCell]; exact g2,g3,g4,fun o' => (World.frozen?_setCell _ _ _ _).trans (g5 o'),A',cap,?_,?_,hcm,.inl rfl,?_⟩
     · simp only [List.length_nil,Nat.zero_add,hlen]
       exact g6.last
     · simp only [List.length_nil,Nat.zero_add,hlen]; exact hcap
     · rcases hA with ⟨rfl,-⟩ | ⟨rfl,-⟩
       · exact .inl rfl
       · refine .inr ⟨kb,rfl,fun i hi => ?_⟩
         rw [kidsOf_ad kb 0 p i hi,Nat.zero_add]
 · intro i hi hp
   rcases PT.its_sub _ _ _ _ i hi with ⟨h1,h2⟩ | h | ⟨-,h2,-⟩
   · exact .inr ⟨h1,h2⟩
   · rw [kidsOf_its] at h; exact .inl h
   · exact absurd h2 hp
 · exact fun i hi hn => PT.mem_sub _ _ _ _ (fun j hj e => by rw [hone j hj e]) i hi hn
 · exact fun i hi => PT.new_sub _ _ _ _ hmem i (by rw [kidsOf_its]; exact hi)
 · intro i hi
   rcases PT.its_sub _ _ _ _ i hi with ⟨h1,h2⟩ | h | ⟨h1,h2,h3,j,h4,h5,h6⟩
   · exact .inr ⟨i,h1,rfl⟩
   · rw [kidsOf_its] at h
     obtain ⟨k,hk,rfl⟩:=itsOf_mem _ _ _ i h
     exact .inl rfl
   · refine .inr ⟨j,h4,?_⟩
     have:=h1.trans h5.symm
     simp only [It.ad,Prod.mk.injEq] at this
     exact this.1
theorem Cop.nil {W0 w : World} {lo : Nat} {t : Tr} {a : PT} (h : Cop W0 lo t w a) {x : It} (hx : x ∈ a.its) (hp : x.p = []) (hk : x.ks = []) : Cop W0 lo t (w.setCell ⟨x.b,x.o + 21,none⟩ (.slice none 0 0)) a:=by
 refine ⟨h.tr,h.ad,h.nodup,fun y hy => ?_⟩
 by_cases e : y.ad = x.ad
 · rw [ad_inj h.nodup hy hx e]; exact (h.ok x hx).nil hp hk
 · exact (h.ok y hy).other (h.ok x hx).2.2.1 e _
def iwait (l : List It) : Nat:=(l.map fun x => Tr.sizes x.p + 1).sum
def iptr (x : It) : Value:=.pointer (some ⟨x.b,x.o,none⟩)
def ipend (l : List It) : List It:=l.filter fun x => !x.p.isEmpty
theorem iwait_append (l m : List It) : iwait (l ++ m) = iwait l + iwait m:=by simp [iwait]
theorem iwait_len (l : List It) : l.length ≤ iwait l:=by
 induction l with
 | nil => simp [iwait]
 | cons x l ih =>
  have h2 : iwait (x :: l) = (Tr.sizes x.p + 1) + iwait l:=by simp [iwait]
  rw [h2,List.length_cons]; omega
theorem iwait_kids (b : Nat) : ∀ (o : Nat) (l : List Tr),iwait (itsOf b o l) = Tr.sizes l
 | _,[] => by simp [itsOf,iwait,Tr.sizes]
 | o,t :: ts => by
  have h : iwait (itsOf b o (t :: ts)) = (Tr.sizes t.l + 1) + iwait (itsOf b (o + 22) ts):=by simp [itsOf,iwait]
  rw [h,iwait_kids b (o + 22) ts]
  have e : t.size = Tr.sizes t.l + 1:=by cases t; simp [Tr.size,Tr.l]
  simp only [Tr.sizes]; omega
theorem iwait_filter (q : It → Bool) (l : List It) : iwait (l.filter q) ≤ iwait l:=by
 induction l with
 | nil => simp [iwait]
 | cons x l ih =>
  have h2 : iwait (x :: l) = (Tr.sizes x.p + 1) + iwait l:=by simp [iwait]
  rw [List.filter_cons]
  split
  · have h3 : iwait (x :: l.filter q) = (Tr.sizes x.p + 1) + iwait (l.filter q):=by simp [iwait]
    omega
  · omega
theorem iwait_pend (l : List It) : iwait (ipend l) ≤ iwait l:=iwait_filter _ l
theorem ipend_take {l : List It} {k : Nat} (hk : k < l.length) : ipend (l.take (k + 1)) = ipend (l.take k) ++ (if l[k].p = [] then [] else [l[k]]):=by
 unfold ipend
 rw [List.take_succ_eq_append_getElem hk,List.filter_append]
 congr 1
 by_cases h : l[k].p = []
 · simp [h]
 · simp [h]
end Go.Proofs.YtjobojfaocihfaaGreat
namespace Go.Proofs.YtjobojfaocihfaaGreat
open Go.RowKit Go.Shelf
theorem AT.ind {P : AT → Prop} (h : ∀ b o d l,(∀ t ∈ l,P t) → P (.mk b o d l)) (t : AT) : P t :=
 AT.rec (motive_1:=P) (motive_2:=fun l => ∀ t ∈ l,P t) (fun b o d l ih => h b o d l ih) (fun t ht => by cases ht)
  (fun t ts iht ihts x hx => by
   rcases List.mem_cons.1 hx with rfl | hx
   · exact iht
   · exact ihts x hx) t
mutual
def AT.all : AT → List AT
 | .mk b o d l => .mk b o d l :: AT.alls l
def AT.alls : List AT → List AT
 | [] => []
 | t :: ts => t.all ++ AT.alls ts
end
theorem AT.alls_flat : ∀ l : List AT,AT.alls l = l.flatMap AT.all
 | [] => by simp [AT.alls]
 | t :: ts => by simp [AT.alls,AT.alls_flat ts]
theorem AT.all_mk (b o : Nat) (d : ND) (l : List AT) : (AT.mk b o d l).all = .mk b o d l :: l.flatMap AT.all:=by simp [AT.all,AT.alls_flat]
def AT.ad (x : AT) : Nat × Nat:=(x.b,x.o)
def FreshAt (w : World) (lo : Nat) (x : AT) : Prop :=
 lo ≤ x.b ∧ x.b < w.heap.size ∧ x.o % 22 = 0 ∧ x.d.ok ∧ (∀ o,w.frozen? ⟨x.b,o,none⟩ = false) ∧ ∃ A c,NodeCells w x.b x.o x.d A x.l.length c ∧ x.l.length ≤ c ∧ c ≤ 9223372036854775807 ∧ (x.l = [] ∨ ∃ b',A = some ⟨b',0,none⟩ ∧ ∀ i (h : i < x.l.length),x.l[i].ad = (b',i * 22))
structure FreshKids (w : World) (lo : Nat) (A : Option Addr) (c : Nat) (ks : List AT) : Prop where
 cap : ks.length ≤ c
 max : c ≤ 9223372036854775807
 at_ : ks = [] ∨ ∃ b',A = some ⟨b',0,none⟩ ∧ ∀ i (h : i < ks.length),ks[i].ad = (b',i * 22)
 nodup : ((ks.flatMap AT.all).map AT.ad).Nodup
 ok : ∀ x ∈ ks.flatMap AT.all,FreshAt w lo x
theorem FreshAt.block {w w' : World} {lo : Nat} {x : AT} (h : FreshAt w lo x) (hs : w.heap.size ≤ w'.heap.size) (hb : w'.heap[x.b]? = w.heap[x.b]?) : FreshAt w' lo x:=by
 obtain ⟨h1,h2,h3,h4,h5,A,c,h6,h7⟩:=h
 exact ⟨h1,by omega,h3,h4,fun o => by have:=h5 o; unfold World.frozen? at this ⊢; rw [hb]; exact this,A,c,h6.keep (fun p hp => World.cell?_of_block (a:=p) (by rw [hp]; exact hb)),h7⟩
theorem FreshKids.block {w w' : World} {lo : Nat} {A : Option Addr} {c : Nat} {ks : List AT} (h : FreshKids w lo A c ks) (hs : w.heap.size ≤ w'.heap.size) (hb : ∀ b,lo ≤ b → b < w.heap.size → (∃ x ∈ ks.flatMap AT.all,x.b = b) → w'.heap[b]? = w.heap[b]?) : FreshKids w' lo A c ks :=
 ⟨h.cap,h.max,h.at_,h.nodup,fun x hx => (h.ok x hx).block hs (hb x.b (h.ok x hx).1 (h.ok x hx).2.1 ⟨x,hx,rfl⟩)⟩
theorem FreshKids.below {w w' : World} {lo : Nat} {A : Option Addr} {c : Nat} {ks : List AT} (h : FreshKids w lo A c ks) (hb : Below w.heap.size w w') : FreshKids w' lo A c ks :=
 h.block hb.size (fun b _ h2 _ => hb.block b h2)
theorem fresh_node {w : World} {lo B : Nat} (hB : w.heap.size ≤ B) (x : AT) : (∀ y ∈ x.all,FreshAt w lo y) → NodeAt w B x.b x.o x.tr:=by
 induction x using AT.ind with
 | _ b o d l ih =>
  intro h
  obtain ⟨h1,h2,h3,h4,h5,A,c,h6,h7,h8,h9⟩:=h (.mk b o d l) (by rw [AT.all_mk]; simp)
  have htr : (AT.mk b o d l).tr = .mk d (l.map AT.tr):=by simp [AT.tr,AT.trs_map]
  rw [htr]
  have hlen : (Tr.mk d (l.map AT.tr)).l.length = l.length:=by simp [Tr.l]
  refine NodeAt.mk (by have : b < w.heap.size:=h2; exact Nat.lt_of_lt_of_le this hB) h4 (A:=A) (c:=c) (by rw [hlen]; exact h6) ⟨by rw [hlen]; exact h7,h8,?_⟩
  rcases h9 with h9 | ⟨b',hA,h9⟩
  · exact .inl (by have : l = []:=h9; simp [Tr.l,this])
  · refine .inr ⟨b',0,hA,KidsAt.of (fun i hi => ?_)⟩
    have hi' : i < l.length:=by rw [hlen] at hi; exact hi
    have e : (Tr.mk d (l.map AT.tr)).l[i] = l[i].tr:=by simp [Tr.l]
    have ha : l[i].ad = (b',i * 22):=h9 i hi'
    have e2 : l[i].b = b' ∧ l[i].o = i * 22:=by simpa [AT.ad] using ha
    have:=ih l[i] (List.getElem_mem hi') (fun y hy => h y (by rw [AT.all_mk]; exact List.mem_cons_of_mem _ (List.mem_flatMap.2 ⟨_,List.getElem_mem hi',hy⟩)))
    rw [e,Nat.zero_add,← e2.1,← e2.2]; exact this
theorem FreshKids.sl {w : World} {lo B : Nat} {A : Option Addr} {c : Nat} {ks : List AT} (h : FreshKids w lo A c ks) (hB : w.heap.size ≤ B) : SlAt w B A c (ks.map AT.tr):=by
 refine ⟨by rw [List.length_map]; exact h.cap,h.max,?_⟩
 rcases h.at_ with rfl | ⟨b',hA,h9⟩
 · exact .inl rfl
 · refine .inr ⟨b',0,hA,KidsAt.of (fun i hi => ?_)⟩
   have hi' : i < ks.length:=by rw [List.length_map] at hi; exact hi
   have e2 : ks[i].b = b' ∧ ks[i].o = i * 22:=by simpa [AT.ad] using h9 i hi'
   rw [List.getElem_map,Nat.zero_add,← e2.1,← e2.2]
   exact fresh_node hB _ (fun y hy => h.ok y (List.mem_flatMap.2 ⟨_,List.getElem_mem hi',hy⟩))
theorem PT.at_ad (x : PT) : x.at_.ad = x.ad:=by obtain ⟨b,o,d,p,l⟩:=x; rw [PT.at_mk]; rfl
theorem PT.all_at (x : PT) : x.at_.all.map AT.ad = x.adrs:=by
 induction x using PT.ind with
 | _ b o d p l ih =>
  rw [PT.at_mk,AT.all_mk,PT.adrs_mk,List.map_cons,List.flatMap_map,List.map_flatMap]
  refine congr (congrArg List.cons rfl) ?_
  have : ∀ m : List PT,(∀ t ∈ m,t ∈ l) → (m.flatMap fun t => t.at_.all.map AT.ad) = m.flatMap PT.adrs:=by
   intro m
   induction m with
   | nil => intro _; rfl
   | cons a m ihm => intro hm; rw [List.flatMap_cons,List.flatMap_cons,ih a (hm a (by simp)),ihm (fun t ht => hm t (by simp [ht]))]
  exact this l (fun _ h => h)
theorem PT.all_ok {W0 w : World} {lo : Nat} (x : PT) : (∀ i ∈ x.its,ItOk W0 lo w i ∧ i.p = []) → ∀ y ∈ x.at_.all,FreshAt w lo y:=by
 induction x using PT.ind with
 | _ b o d p l ih =>
  intro h y hy
  rw [PT.at_mk,AT.all_mk] at hy
  rcases List.mem_cons.1 hy with rfl | hy
  · obtain ⟨⟨h1,h2,h3,h4,h5,A,c,h6,h7,h8,h9,h10⟩,hp⟩:=h ⟨b,o,d,p,l.map PT.ad⟩ (by rw [PT.its_mk]; simp)
    have hp' : p = []:=hp
    subst hp'
    simp only [List.length_nil,Nat.zero_add,List.length_map] at h6 h7
    refine ⟨h1,h2,h3,h4,h5,A,c,by rw [show (AT.mk b o d (l.map PT.at_)).l.length = l.length from by simp [AT.l]]; exact h6,by rw [show (AT.mk b o d (l.map PT.at_)).l.length = l.length from by simp [AT.l]]; exact h7,h8,?_⟩
    rcases h10 with h10 | ⟨b',hA,h10⟩
    · exact .inl (by have e0 : l = []:=(by simpa using h10); rw [e0]; rfl)
    · refine .inr ⟨b',hA,fun i hi => ?_⟩
      have hi' : i < l.length:=by simpa [AT.l] using hi
      have:=h10 i (by simpa using hi')
      simp only [List.getElem_map] at this
      have e : (AT.mk b o d (l.map PT.at_)).l[i] = l[i].at_:=by simp [AT.l]
      rw [e,PT.at_ad]; exact this
  · rw [List.flatMap_map] at hy
    obtain ⟨t,ht,hy⟩:=List.mem_flatMap.1 hy
    exact ih t ht (fun i hi => h i (by rw [PT.its_mk]; exact List.mem_cons_of_mem _ (List.mem_flatMap.2 ⟨t,ht,hi⟩))) y hy
theorem PT.all_far (x : PT) (r : Nat) : (∀ i ∈ x.its,i.b ≠ r) → ∀ y ∈ x.at_.all,y.b ≠ r:=by
 intro h y hy
 have h1 : y.ad ∈ x.adrs:=by rw [← PT.all_at]; exact List.mem_map.2 ⟨y,hy,rfl⟩
 obtain ⟨i,hi,he⟩:=List.mem_map.1 h1
 have h2 : i.b = y.b:=congrArg Prod.fst he
 rw [← h2]; exact h i hi
theorem Cop.done {W0 w : World} {lo : Nat} {t : Tr} {a : PT} (h : Cop W0 lo t w a) (r : Nat) (hp : ∀ x ∈ a.its,x.p = []) (hr : ∀ x ∈ a.its,x.b ≠ r) : ∃ A c ks,NodeCells w lo 0 t.d A t.l.length c ∧ t.d.ok ∧ ks.map AT.tr = t.l ∧ FreshKids w lo A c ks ∧ ∀ x ∈ ks.flatMap AT.all,x.b ≠ r:=by
 have hfar:=PT.all_far a r hr
 have htr:=PT.at_tr a hp
 have hall:=PT.all_ok a (fun i hi => ⟨h.ok i hi,hp i hi⟩)
 have hnd:=h.nodup
 rw [← PT.all_at] at hnd
 have had:=PT.at_ad a
 rw [h.ad] at had
 rw [h.tr] at htr
 generalize a.at_ = q at htr hall hnd had hfar
 obtain ⟨b,o,d,l⟩:=q
 simp only [AT.ad,AT.b,AT.o,Prod.mk.injEq] at had
 obtain ⟨rfl,rfl⟩:=had
 have htr' : (AT.mk b 0 d l).tr = .mk d (l.map AT.tr):=by simp [AT.tr,AT.trs_map]
 rw [htr'] at htr
 subst htr
 obtain ⟨h1,h2,h3,h4,h5,A,c,h6,h7,h8,h9⟩:=hall (.mk b 0 d l) (by rw [AT.all_mk]; simp)
 rw [AT.all_mk] at hall hnd hfar
 refine ⟨A,c,l,by simp only [Tr.d,Tr.l,List.length_map]; exact h6,h4,rfl,⟨h7,h8,h9,?_,fun x hx => hall x (List.mem_cons_of_mem _ hx)⟩,fun x hx => hfar x (List.mem_cons_of_mem _ hx)⟩
 rw [List.map_cons,List.nodup_cons] at hnd
 exact hnd.2
end Go.Proofs.YtjobojfaocihfaaGreat
namespace Go.Proofs.YtjobojfaocihfaaGreat
open Go.RowKit Go.Shelf
theorem alloc_setRow (w : World) (old cs : Array Value) (t : TypeId) (fr : Nat × Nat) : (w.alloc (.cells old t fr)).setRow w.heap.size cs = w.alloc (.cells cs t fr):=by
 unfold World.setRow World.alloc
 congr 1
 apply Array.ext
 · simp
 · intro i h1 h2
   simp only [Array.getElem_modify,Array.getElem_push]
   by_cases hi : w.heap.size = i
   · subst hi; simp
   · have h3 : i < w.heap.size:=by simp at h1; omega
     simp [hi,h3]
theorem below_row {B g : Nat} {a w : World} (h : Below B a w) (hg : B ≤ g) (cs : Array Value) : Below B a (w.setRow g cs) :=
 ⟨h.os,h.tape,h.output,by simpa using h.size,fun b hb => (setRow_other _ _ _ _ (by omega)).trans (h.block b hb)⟩
theorem infS {N : Array Value} (h : N.size = 22) : (Tryz.prog.info? 54).map (·.size) = some N.size:=by rw [h]; exact infN
theorem wpList_storeFresh {P : Program} {ops : Array Oper} {rest : List Oper} {o : Oper} {a : Act} {w : World} {Q : Exit → Act → World → Prop} {old : Array Value} {t : TypeId} (hgd : o.guard = none) (ty : TypeId) (x y : Operand) (ho : o.op = .store ty x y)
 (g : Nat) (hg : w.heap.size = g) (cells : Array Value) (hx : a.eval x = .pointer (some ⟨g,0,none⟩)) (hy : a.eval y = .agg cells) (hi : (P.info? ty).map (·.size) = some cells.size) (hold : old.size = cells.size) (h1 : cells.all (·.oneCell') = true)
 (h : wpList P ops Q rest (a.put o.dst undef) (w.alloc (.cells cells t))) : wpList P ops Q (o :: rest) a (w.alloc (.cells old t)):=by
 subst hg
 refine wpList_store_row hgd ty x y ho w.heap.size cells hx hy t old (World.alloc_heap_new w _) hi hold h1 ?_
 rw [alloc_setRow]; exact h
theorem wpList_buildSome {P : Program} {ops : Array Oper} {rest : List Oper} {o : Oper} {a : Act} {w : World} {Q : Exit → Act → World → Prop} (hg : o.guard = none) (t : TypeId) (parts : Array (Nat × Operand)) (ho : o.op = .build t parts) (cells : Array Value)
 (hf : P.built t (parts.map fun (i,x) => (i,a.eval x)).toList = some cells) (h : wpList P ops Q rest (a.put o.dst (.agg cells)) w) : wpList P ops Q (o :: rest) a w:=by
 refine wpList_build hg t parts ho (by rw [hf]; rfl) ?_
 rw [hf]; exact h
theorem wpList_nodeVar {ops : Array Oper} {rest : List Oper} {o : Oper} {a : Act} {w : World} {Q : Exit → Act → World → Prop} (hg : o.guard = none) (ho : o.op = .alloc 54) (g : Nat) (hz : w.heap.size = g)
 (h : wpList Tryz.prog ops Q rest (a.put o.dst (.pointer (some ⟨g,0,none⟩))) (w.alloc (.cells (nodeA ⟨0,⟨0,0,0,ByteArray.mk #[],false,0⟩,ByteArray.mk #[],⟨0,0,0,0,false,false⟩,⟨0,0,0,0,false,false⟩,0⟩ none 0 0) 54))) : wpList Tryz.prog ops Q (o :: rest) a w:=by
 subst hz
 refine Great.wpList_allocTo hg o.dst rfl _ _ ?_ h
 unfold execOp
 simp only [ho]
 kernel_rfl
end Go.Proofs.YtjobojfaocihfaaGreat
