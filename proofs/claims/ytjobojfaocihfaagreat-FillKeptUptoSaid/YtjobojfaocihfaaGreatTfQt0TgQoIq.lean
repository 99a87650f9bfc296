/- fill.Take: from region 6 on. What keeps axes that are ready. fill.Take of places that are there. way and Shift over axes that are ready: what was stays. fill of no sheet: the zero edit. -/
import Derived.Test.YtjobojfaocihfaaGreatTw
import Derived.Test.YtjobojfaocihfaaGreatZnTbQlTe
import Derived.Great.CaseRows
import Derived.Great.BuildSlice
import Derived.Deep.AppendLies
import Derived.Test.YtjobojfaocihfaaGreatHbIjIlImIn
import Derived.Test.YtjobojfaocihfaaGreatIoIpSrQdQeQfRF
import Derived.Test.YtjobojfaocihfaaGreatRiCkXbXcXdXeXfHcOaOb
import Derived.Test.YtjobojfaocihfaaGreatQiIq0Is
namespace Go.Proofs.YtjobojfaocihfaaGreat
set_option maxRecDepth 100000
set_option maxHeartbeats 8000000
set_option linter.unusedSimpArgs false
set_option linter.unusedVariables false
open Go Go.RowKit Go.Shelf Go.Maps
theorem NodeG.toZ {w : World} {Z : Nat → Prop} (t : Tr) : ∀ b o,NodeG w (fun b _ => Z b) b o t → NodeZ w Z b o t:=by
 induction t using Tr.ind with
 | _ d l ih =>
  intro b o h
  simp only [NodeG] at h
  simp only [NodeZ]
  obtain ⟨hb,hd,A,c,hc,h1,h2,h3⟩:=h
  refine ⟨hb,hd,A,c,hc,h1,h2,?_⟩
  rcases h3 with rfl | ⟨b',o',hA,hkids⟩
  · exact .inl rfl
  · exact .inr ⟨b',o',hA,KidsZ.of (fun i hi => ih _ (List.getElem_mem hi) _ _ (hkids.get i hi))⟩
theorem SlG.toZ {w : World} {Z : Nat → Prop} {A : Option Addr} {c : Nat} {l : List Tr} (h : SlG w (fun b _ => Z b) A c l) : SlZ w Z A c l:=by
 obtain ⟨h1,h2,h3⟩:=h
 refine ⟨h1,h2,?_⟩
 rcases h3 with rfl | ⟨b',o',hA,hkids⟩
 · exact .inl rfl
 · exact .inr ⟨b',o',hA,KidsZ.of (fun i hi => NodeG.toZ _ _ _ (hkids.get i hi))⟩
def cellAt (R K : List Ik) (i j : Nat) : Ad:=⟨(R.getD i ⟨0,0⟩).a,(R.getD i ⟨0,0⟩).n,(K.getD j ⟨0,0⟩).a,(K.getD j ⟨0,0⟩).n⟩
theorem cellAt_ok {L M : IL} (hL : L.Ok) (hM : M.Ok) {i j : Nat} (hi : i < L.alive.length) (hj : j < M.alive.length) : (cellAt L.alive M.alive i j).ok:=by
 simp only [cellAt,List.getD_eq_getElem?_getD,List.getElem?_eq_getElem hi,List.getElem?_eq_getElem hj,Option.getD_some]
 have h1:=hL.ok _ (IL.alive_ids (List.getElem_mem hi))
 have h2:=hM.ok _ (IL.alive_ids (List.getElem_mem hj))
 exact ⟨h1.1,h1.2,h2.1,h2.2⟩
def tkAt (R K : List Ik) (C : List (Ad × Ct)) (r0 c0 nc k : Nat) : Ad × Ct:=(cellAt R K (r0 + k / nc) (c0 + k % nc),getM C (cellAt R K (r0 + k / nc) (c0 + k % nc)))
def tkL (R K : List Ik) (C : List (Ad × Ct)) (r0 c0 nc n : Nat) : List (Ad × Ct):=(List.range n).map (tkAt R K C r0 c0 nc)
theorem tkL_succ (R K : List Ik) (C : List (Ad × Ct)) (r0 c0 nc n : Nat) : tkL R K C r0 c0 nc (n + 1) = tkL R K C r0 c0 nc n ++ [tkAt R K C r0 c0 nc n]:=by simp [tkL,List.range_succ]
theorem tkL_len (R K : List Ik) (C : List (Ad × Ct)) (r0 c0 nc n : Nat) : (tkL R K C r0 c0 nc n).length = n:=by simp [tkL]
theorem tk_div {i j nc : Nat} (hj : j < nc) : (i * nc + j) / nc = i ∧ (i * nc + j) % nc = j:=by
 rw [Nat.mul_comm i nc]
 exact ⟨by rw [Nat.mul_add_div (by omega),Nat.div_eq_of_lt hj,Nat.add_zero],by rw [Nat.mul_add_mod,Nat.mod_eq_of_lt hj]⟩
theorem tkAt_pos {R K : List Ik} {C : List (Ad × Ct)} {r0 c0 nc i j : Nat} (hj : j < nc) : tkAt R K C r0 c0 nc (i * nc + j) = (cellAt R K (r0 + i) (c0 + j),getM C (cellAt R K (r0 + i) (c0 + j))):=by
 obtain ⟨h1,h2⟩:=tk_div (i:=i) hj
 unfold tkAt
 rw [h1,h2]
def ZoneT (h : Nat) (v : Value) (w : World) (k : Nat) : Prop:=h ≤ k ∧ k < w.heap.size ∧ some k ≠ v.ownBlock
theorem owns_keepT {w w' : World} {base : Nat} {e : TypeId} {size : Nat} {v : Value} {n : Nat} {xs : List Value} (h : w.ownsRow base e size v n xs) (hk : ∀ k,base ≤ k → k < w.heap.size → w'.heap[k]? = w.heap[k]?) : w'.ownsRow base e size v n xs:=by
 refine ⟨h.1,?_⟩
 rcases h.2 with h2 | ⟨g,cap,cur,h1,h2,h3,h4⟩
 · exact .inl h2
 · exact .inr ⟨g,cap,cur,h1,h2,(hk g h2 (Jg h3).1).trans h3,h4⟩
theorem owns_neT {w : World} {base : Nat} {e : TypeId} {size : Nat} {v : Value} {n : Nat} {xs : List Value} (h : w.ownsRow base e size v n xs) {k : Nat} (hk : k < base) : some k ≠ v.ownBlock:=by
 rcases h.2 with ⟨rfl,_⟩ | ⟨g,cap,cur,rfl,h2,h3,h4⟩
 · intro e; cases e
 · intro e; simp only [Value.ownBlock,Option.some.injEq] at e; omega
theorem owns_ne2T {w : World} {base : Nat} {e : TypeId} {size : Nat} {v : Value} {n : Nat} {xs : List Value} (h : w.ownsRow base e size v n xs) {k : Nat} (hk : w.heap.size ≤ k) : some k ≠ v.ownBlock:=by
 rcases h.2 with ⟨rfl,_⟩ | ⟨g,cap,cur,rfl,h2,h3,h4⟩
 · intro e; cases e
 · intro e; simp only [Value.ownBlock,Option.some.injEq] at e; have:=(Jg h3).1; omega
def BlkAt (w : World) (Z : Nat → Prop) (A : Option Addr) (es : List (Ad × Ct)) : Prop:=∃ g xs,A = some ⟨g,0,none⟩ ∧ Z g ∧ ARow w Z es xs ∧ ∀ j u,xs[j]? = some u → w.cell? ⟨g,j,none⟩ = some u
structure TkR (h0 : Nat) (W wr : World) (nr nc k : Nat) (es : List (Ad × Ct)) (A : Option Addr) (cap : Nat) (xs : List Value) : Prop where
 blk : wr.heap[h0]? = some (.cells #[.int .i64 nr,.int .i64 nc,.slice A k cap] 36)
 own : wr.ownsRow (h0 + 1) 100 33 (.slice A k cap) k xs
 row : ARow wr (ZoneT (h0 + 1) (.slice A k cap) wr) es xs
 below : Below h0 W wr
def TkRel (h0 : Nat) (W wr : World) (nr nc k : Nat) (es : List (Ad × Ct)) : Prop:=∃ A cap xs,TkR h0 W wr nr nc k es A cap xs
section
variable {h0 : Nat} {W wr : World} {nr nc k : Nat} {es : List (Ad × Ct)} {A : Option Addr} {cap : Nat} {xs : List Value}
theorem TkR.lt (h : TkR h0 W wr nr nc k es A cap xs) : h0 < wr.heap.size:=(Jg h.blk).1
theorem TkR.cell (h : TkR h0 W wr nr nc k es A cap xs) : wr.cell? ⟨h0,2,none⟩ = some (.slice A k cap):=cell_of_row _ _ 2 _ _ _ h.blk
theorem TkRel.start (hb : Below h0 W wr) (hk : wr.heap[h0]? = some (.cells #[.int .i64 nr,.int .i64 nc,.slice none 0 0] 36)) {R K : List Ik} {C : List (Ad × Ct)} {r0 c0 : Nat} : TkRel h0 W wr nr nc 0 (tkL R K C r0 c0 nc 0) :=
 ⟨none,0,[],hk,⟨rfl,.inl ⟨rfl,rfl⟩⟩,rfl,hb⟩
theorem TkR.own2 {x0 x1 x2 : World} {NA : Array Value} {T : TypeId} (h : TkR h0 W wr nr nc k es A cap xs) (h1 : Below wr.heap.size wr x0) (h2 : Below x0.heap.size x0 x1) (h3 : x2 = x1.alloc (.cells NA T)) : x2.ownsRow (h0 + 1) 100 33 (.slice A k cap) k xs :=
 owns_keepT h.own (fun b _ hb => by
  have e1:=h1.size
  have e2:=h2.size
  rw [h3]
  exact (heapOld _ _ _ (by omega)).trans ((h2.block b (by omega)).trans (h1.block b hb)))
theorem TkR.frozen {x0 x1 x2 x3 : World} {NA : Array Value} {T : TypeId} (h : TkR h0 W wr nr nc k es A cap xs) (h1 : Below wr.heap.size wr x0) (h2 : Below x0.heap.size x0 x1) (h3 : x2 = x1.alloc (.cells NA T)) (h4 : x2.grownBy x3 (Value.slice A k cap).ownBlock) : x3.frozen? ⟨h0,2,none⟩ = false:=by
 have e1:=h1.size
 have e2:=h2.size
 have e3 : x1.heap.size ≤ x2.heap.size:=by rw [h3,World.size_alloc]; omega
 have hl:=h.lt
 have:=(h4.block h0 (by omega) (owns_neT h.own (by omega))).trans ((by rw [h3]; exact heapOld _ _ _ (by omega) : x2.heap[h0]? = x1.heap[h0]?).trans ((h2.block h0 (by omega)).trans ((h1.block h0 hl).trans h.blk)))
 simp [World.frozen?,this]
theorem TkRel.step {w2 w4 : World} {e : Ad × Ct} {A2 : Option Addr} {c2 g2 cap2 : Nat} (h : TkR h0 W wr nr nc k es A cap xs)
 (hs2 : SlZ w2 (fun b => wr.heap.size ≤ b ∧ b < w2.heap.size) A2 c2 e.2.t.l) (hb2 : Below wr.heap.size wr w2)
 (hgrow : (w2.alloc (.cells (acA e.1 e.2 A2 c2) 100)).grownBy w4 (Value.slice A k cap).ownBlock)
 (hown4 : w4.ownsRow (h0 + 1) 100 33 (.slice (some ⟨g2,0,none⟩) (k + 1) cap2) (k + 1) (xs ++ (acA e.1 e.2 A2 c2).toList)) (hat : (Value.slice A k cap).ownBlock = some g2 ∨ g2 = w2.heap.size + 1) :
 TkRel h0 W (w4.setCell ⟨h0,2,none⟩ (.slice (some ⟨g2,0,none⟩) (k + 1) cap2)) nr nc (k + 1) (es ++ [e]):=by
 have hlt:=h.lt
 have h2s:=hb2.size
 have h4s : w2.heap.size + 1 ≤ w4.heap.size:=by have:=hgrow.size; rwa [World.size_alloc] at this
 have b24 : ∀ k',k' < w2.heap.size → some k' ≠ (Value.slice A k cap).ownBlock → w4.heap[k']? = w2.heap[k']?:=fun k' hk hne => (hgrow.block k' (by rw [World.size_alloc]; omega) hne).trans (heapOld _ _ _ hk)
 have hg2l : g2 < w4.heap.size:=(hown4.lt g2 rfl).2
 have hg2b : h0 + 1 ≤ g2:=(hown4.lt g2 rfl).1
 obtain ⟨w5,hw5⟩ : ∃ x,x = w4.setCell ⟨h0,2,none⟩ (.slice (some ⟨g2,0,none⟩) (k + 1) cap2):=⟨_,rfl⟩
 have h5s : w5.heap.size = w4.heap.size:=by rw [hw5]; simp
 have b45 : ∀ k',k' ≠ h0 → w5.heap[k']? = w4.heap[k']?:=fun k' hne => by rw [hw5]; exact Below.heap_setCell _ _ _ _ hne
 have hz5 : ∀ k',(h0 + 1 ≤ k' ∧ k' < w2.heap.size ∧ some k' ≠ (Value.slice A k cap).ownBlock) → ZoneT (h0 + 1) (.slice (some ⟨g2,0,none⟩) (k + 1) cap2) w5 k':=fun k' ⟨h1,h2,h3⟩ => by
  refine ⟨h1,by omega,fun e => ?_⟩
  simp only [Value.ownBlock,Option.some.injEq] at e
  rcases hat with h | h
  · exact h3 (by rw [h,e])
  · omega
 have h4b : w4.heap[h0]? = some (.cells #[.int .i64 nr,.int .i64 nc,.slice A k cap] 36):=(b24 h0 (by omega) (owns_neT h.own (by omega))).trans ((hb2.block h0 hlt).trans h.blk)
 rw [← hw5]
 refine ⟨some ⟨g2,0,none⟩,cap2,xs ++ (acA e.1 e.2 A2 c2).toList,?_,?_,?_,?_⟩
 · rw [hw5]; exact heap_setCell_same _ _ 2 _ _ _ h4b
 · exact owns_keepT hown4 (fun b h1 h2 => b45 b (by omega))
 · refine ARow.append (ARow.move (fun k' hk => hz5 k' ⟨hk.1,by have:=hk.2.1; omega,hk.2.2⟩) (fun p hp => World.cell?_of_block ?_) h.row) (ARow.one_ (SlZ.move hs2 (fun k' hk => hz5 k' ⟨by omega,hk.2,owns_ne2T h.own hk.1⟩) (fun p hp => World.cell?_of_block ?_)))
   · obtain ⟨p1,p2,p3⟩:=hp
     exact (b45 _ (by omega)).trans ((b24 _ (by omega) p3).trans (hb2.block _ p2))
   · obtain ⟨p1,p2⟩:=hp
     exact (b45 _ (by omega)).trans (b24 _ p2 (owns_ne2T h.own p1))
 · have hbl:=h.below
   have e1 : Below h0 wr w5:=⟨by rw [hw5]; exact hgrow.os.trans hb2.os,by rw [hw5]; exact hgrow.tape.trans hb2.tape,by rw [hw5]; exact hgrow.output.trans hb2.output,by omega,fun b hb => (b45 b (by omega)).trans ((b24 b (by omega) (owns_neT h.own (by omega))).trans (hb2.block b (by omega)))⟩
   exact hbl.trans e1
theorem TkRel.step' {x0 x1 x3 : World} {i j r0 c0 : Nat} {R K : List Ik} {C : List (Ad × Ct)} {e : Ad × Ct} {A2 : Option Addr} {c2 g2 cap2 : Nat} (hk : k = i * nc + j) (h : TkR h0 W wr nr nc k (tkL R K C r0 c0 nc k) A cap xs)
 (hs2 : SlZ x1 (fun b => x0.heap.size ≤ b ∧ b < x1.heap.size) A2 c2 e.2.t.l) (hb0 : Below wr.heap.size wr x0) (hb1 : Below x0.heap.size x0 x1)
 (hgrow : (x1.alloc (.cells (acA e.1 e.2 A2 c2) 100)).grownBy x3 (Value.slice A k cap).ownBlock)
 (hown4 : x3.ownsRow (h0 + 1) 100 33 (.slice (some ⟨g2,0,none⟩) (k + 1) cap2) (k + 1) (xs ++ (acA e.1 e.2 A2 c2).toList)) (hat : (Value.slice A k cap).ownBlock = some g2 ∨ g2 = x1.heap.size + 1) (he : tkAt R K C r0 c0 nc k = e) :
 TkRel h0 W (x3.setCell ⟨h0,2,none⟩ (.slice (some ⟨g2,0,none⟩) (k + 1) cap2)) nr nc (i * nc + (j + 1)) (tkL R K C r0 c0 nc (i * nc + (j + 1))):=by
 have:=TkRel.step h (SlZ.move hs2 (Z':=fun b => wr.heap.size ≤ b ∧ b < x1.heap.size) (fun b hb => ⟨Nat.le_trans hb0.size hb.1,hb.2⟩) (fun _ _ => rfl)) (hb0.trans (hb1.mono hb0.size)) hgrow hown4 hat
 rw [← Nat.add_assoc,← hk,tkL_succ,he]
 exact this
theorem TkR.fin {g10 lo : Nat} (h : TkR h0 W wr nr nc k es A cap xs) (hg : g10 < h0) (hlo : lo ≤ g10) (hh0 : h0 = W.heap.size) (hk : 0 < k) (N : Array Value) :
 KeepA g10 W (wr.setRow g10 N) ∧ BlkAt (wr.setRow g10 N) (fun b => lo ≤ b ∧ b < (wr.setRow g10 N).heap.size) A es:=by
 have hsz : (wr.setRow g10 N).heap.size = wr.heap.size:=by simp
 have hkeep : ∀ b,h0 ≤ b → (wr.setRow g10 N).heap[b]? = wr.heap[b]?:=fun b hb => setRow_other _ _ _ _ (by omega)
 have hbl:=h.below
 refine ⟨⟨by simpa using hbl.os,by simpa using hbl.tape,by simpa using hbl.output,by rw [hsz]; exact hbl.size,fun k hk hn => (setRow_other _ _ _ _ hn).trans (hbl.block k (by omega))⟩,?_⟩
 rcases h.own.2 with ⟨hv,h0'⟩ | ⟨g,cap',cur,hv,hbg,hgg,hnc,hcm,hcs,htk⟩
 · omega
 · have hcell:=fun j u hu => own_cell h.own hv j u hu
   simp only [Value.slice.injEq] at hv
   obtain ⟨rfl,-,rfl⟩:=hv
   refine ⟨g,xs,rfl,⟨by omega,by rw [hsz]; exact (Jg hgg).1⟩,ARow.move (fun b hb => ⟨by have:=hb.1; omega,by rw [hsz]; exact hb.2.1⟩) (fun p hp => World.cell?_of_block (hkeep _ (by have:=hp.1; omega))) h.row,fun j u hu => ?_⟩
   exact (World.cell?_of_block (a:=⟨g,j,none⟩) (hkeep g (by omega))).trans (hcell j u hu)
end
theorem undTks : Tryz.prog.underlying 34 = some (.slice 100):=by kernel_rfl
theorem undBk : Tryz.prog.underlying 36 = some (.struct (Tryz.prog.fieldsOf 36)):=by kernel_rfl
theorem infoTk : (Tryz.prog.info? 100).map (fun i => (i.zero,i.size,i.bytes)) = some (some (.agg (acA ⟨0,0,0,0⟩ zCt none 0)),33,288):=by kernel_rfl
theorem infTk : (Tryz.prog.info? 100).map (·.size) = some 33:=by kernel_rfl
theorem zeroTk : ((Tryz.prog.info? 100).bind (·.zero)).isSome = true:=by kernel_rfl
theorem acA_one' (a : Ad) (x : Ct) (A : Option Addr) (c : Nat) : ∀ u ∈ (acA a x A c).toList,u.oneCell' = true:=fun u hu => by
 have:=acA_one a x A c
 rw [Array.all_eq_true_iff_forall_mem] at this
 exact this u (by simpa using hu)
theorem step_oneTk {ops : Array Oper} {o : Oper} {a : Act} {w : World} {K : Act → World → Prop} {Q : Exit → Act → World → Prop} {E : Prop} (hg : o.guard = none) (i : Nat) (ho : o.op = .buildSlice 34 1 #[(0, .tmp i)]) (N : Array Value) (hev : a.eval (.tmp i) = .agg N) (hn : N.size = 33)
 (h : K (a.put o.dst (.slice (some ⟨w.heap.size,0,none⟩) 1 1)) (w.alloc (.cells N 100))) : if Region.wanted o (yielded ops a.tmps) = true then Oper.wp Tryz.prog o a w K Q else E:=by
 have hw : Region.wanted o (yielded ops a.tmps) = true:=by simp [Region.wanted,hg]
 rw [if_pos hw]
 have hsz:=infTk
 have hz:=zeroTk
 cases hie : Tryz.prog.info? 100 with
 | none => rw [hie] at hsz; cases hsz
 | some ie =>
  rw [hie] at hsz hz
  simp only [Option.map_some,Option.some.injEq,Option.bind_some] at hsz hz
  obtain ⟨z,hzz⟩:=Option.isSome_iff_exists.1 hz
  refine wp_buildSlice 34 100 1 #[(0,.tmp i)] ho N ie z undTks hie hzz (by rw [hsz]; decide) (by rw [hsz]; decide) ?_ h
  have e1 : ((#[(0,Operand.tmp i)] : Array (Nat × Operand)).map fun (i,x) => (i,a.eval x)).toList = (([Value.agg N]).zipIdx 0).map fun x => (x.2,x.1):=by simp [hev]
  have e2 : ([Value.agg N].flatMap fun v => v.cells.toList).toArray = N:=by simp [Value.cells]
  rw [e1,hsz]
  have:=Great.fill_whole (s:=33) (by decide) [Value.agg N] ((Array.range (1 * 33)).map (z.cells[· % z.cells.size]!)) (fun v hv => by simp only [List.mem_singleton] at hv; subst hv; exact hn) (by simp)
  rw [e2] at this
  exact this
theorem ldCe_run {o : Oper} {ρ : Operand → Value} {w : World} (x : Operand) (ho : o.op = .load 63 x) (p : Addr) (hx : ρ x = .pointer (some p)) (v : Value) (hc : w.cell? p = some v) : (execOp ρ o).run Tryz.prog w = .ok (.value v) w:=by
 unfold execOp
 simp only [ho,hx]
 simp [go_sem,hc]
noncomputable def takeC : Code:=Tryz.f11.body.getD .skip
theorem take6 (u5 u6 u7 u8 u9 uA uB uC uD uE uF uG uH uI uJ uK uL uM uN uO uP uQ uR uS uT uU uV uW uX uY uZ ua ub uc ud ue uf ug uh ui uj uk ul um un uo up uq ur ut uu uv uw ux uy uz UA UB UC UD UE UF UG UH UI UJ UK UL UM UN UO UP UQ : Value) (W0 W : World) (R0 : Ending → World → Prop) (lo s p q ce na nst g10 h0 : Nat) (L M : IL) (C : List (Ad × Ct)) (Z : Nat → Prop) (zb : Array Value) (r0 c0 nr nc : Nat)
 (hs : W0.heap[s]? = some (.cells #[.pointer (some ⟨p,0,none⟩),.pointer (some ⟨q,0,none⟩),.pointer (some ⟨ce,0,none⟩),.pointer (some ⟨na,0,none⟩)] 66)) (hL : L.Ok) (hM : M.Ok) (h1 : AxRd W0 p L) (h2 : AxRd W0 q M) (hst : StZ W0 ce nst C Z)
 (hr : r0 + nr ≤ L.alive.length) (hc : c0 + nc ≤ M.alive.length) (hh0 : h0 = W0.heap.size) (hb : Below W0.heap.size W0 W) (hk : W.heap[h0]? = some (.cells #[.int .i64 nr,.int .i64 nc,.slice none 0 0] 36)) (h10 : W0.heap[g10]? = some (.cells zb 36)) (hzb : zb.size = 3) (hlo : lo ≤ g10) (hn1 : 1 ≤ nr ∧ 1 ≤ nc)
 (hret : ∀ W' A cap,KeepA g10 W0 W' → nr * nc ≤ cap → cap ≤ 9223372036854775807 → BlkAt W' (fun k => lo ≤ k ∧ k < W'.heap.size) A (tkL L.alive M.alive C r0 c0 nc (nr * nc)) → R0 (.returned (.tuple #[.agg #[.int .i64 nr,.int .i64 nc,.slice A (nr * nc) cap],.int .i64 0])) W') :
 (fromRegion 6 takeC).wp Tryz.prog (bodyPost Tryz.prog Tryz.f11 R0) ⟨#[.pointer (some ⟨s,0,none⟩),.int .i64 (r0 : Nat),.int .i64 (c0 : Nat),.int .i64 (nr : Nat),.int .i64 (nc : Nat),u5,u6,u7,u8,u9,.pointer (some ⟨g10,0,none⟩),uA,.pointer (some ⟨h0,0,none⟩),uB,uC,uD,uE,uF,uG,uH,uI,uJ,uK,uL,uM,uN,uO,uP,uQ,uR,uS,uT,uU,uV,uW,uX,uY,uZ,ua,ub,uc,ud,ue,uf,ug,uh,ui,uj,uk,ul,um,un,uo,up,uq,ur,ut,uu,uv,uw,ux,uy,uz,UA,UB,UC,UD,UE,UF,UG,UH,UI,UJ,UK,UL,UM,UN,UO,UP,UQ],[]⟩ W:=by
 dsimp only
 have hll:=hL.len
 have hlm:=hM.len
 have hr1 : r0 + nr ≤ 1000:=Nat.le_trans hr (Nat.le_trans (IL.alive_len L) hll)
 have hc1 : c0 + nc ≤ 1000:=Nat.le_trans hc (Nat.le_trans (IL.alive_len M) hlm)
 have hl1:=Nat.le_trans (IL.alive_len L) hll
 have hl2:=Nat.le_trans (IL.alive_len M) hlm
 have hslt : s < h0:=by rw [hh0]; exact (Jg hs).1
 have hglt : g10 < h0:=by rw [hh0]; exact (Jg h10).1
 have hcell : ∀ (i j : Nat),i < nr → j < nc → ∀ wx,Below h0 W0 wx → Calls Tryz.prog 37 #[.pointer (some ⟨s,0,none⟩),.int .i64 ((r0 : Int) + (i : Int)),.int .i64 ((c0 : Int) + (j : Int))] wx fun e w' => e = .returned (.tuple #[.agg #[.int .i64 (cellAt L.alive M.alive (r0 + i) (c0 + j)).ra,.int .i64 (cellAt L.alive M.alive (r0 + i) (c0 + j)).rn,.int .i64 (cellAt L.alive M.alive (r0 + i) (c0 + j)).ca,.int .i64 (cellAt L.alive M.alive (r0 + i) (c0 + j)).cn],.bool true]) ∧ Below wx.heap.size wx w':=fun i j hi hj wx hx => by
  rw [hh0] at hx
  have:=cellR_c (w:=wx) ((hx.block s (Jg hs).1).trans hs) (h1.below hx) (h2.below hx) (by omega) (by omega) (r0 + i) (c0 + j) (by omega) (by omega)
  rw [Int.natCast_add,Int.natCast_add] at this
  simp only [cellAt,List.getD_eq_getElem?_getD,List.getElem?_eq_getElem (show r0 + i < L.alive.length by omega),List.getElem?_eq_getElem (show c0 + j < M.alive.length by omega),Option.getD_some]
  exact this
 have hget : ∀ (i j : Nat),i < nr → j < nc → ∀ wx,Below h0 W0 wx → Calls Tryz.prog 19 #[.pointer (some ⟨ce,0,none⟩),(cellAt L.alive M.alive (r0 + i) (c0 + j)).val] wx (CopyC wx (getM C (cellAt L.alive M.alive (r0 + i) (c0 + j)))):=fun i j hi hj wx hx => by
  rw [hh0] at hx
  exact getZ_c (hst.below hx) _ (cellAt_ok hL hM (by omega) (by omega))
 obtain ⟨ti,hti,hz0,hz1,hz2⟩:=info_parts infoTk
 have HTI:=Jh (And.intro hti (And.intro hz0 (And.intro hz1 hz2)))
 have HST : Hid (TkRel h0 W0 W nr nc 0 (tkL L.alive M.alive C r0 c0 nc 0)):=Jh (TkRel.start (by rw [hh0]; exact hb) hk)
 have HCE:=Jh hcell
 have HGE:=Jh hget
 have HRET:=Jh hret
 have HS0 : Hid (s < h0 ∧ g10 < h0 ∧ W0.heap[s]? = some (.cells #[.pointer (some ⟨p,0,none⟩),.pointer (some ⟨q,0,none⟩),.pointer (some ⟨ce,0,none⟩),.pointer (some ⟨na,0,none⟩)] 66) ∧ W0.heap[g10]? = some (.cells zb 36)):=Jh ⟨hslt,hglt,hs,h10⟩
 have HLO:=Jh (show lo ≤ g10 ∧ zb.size = 3 ∧ h0 = W0.heap.size ∧ 1 ≤ nr ∧ 1 ≤ nc from ⟨hlo,hzb,hh0,hn1.1,hn1.2⟩)
 have HC4:=Jh infC4
 have HIL4:=Jh (show ∀ a b c d : Value,(Tryz.prog.info? 43).map (·.size) = some [a,b,c,d].length from fun _ _ _ _ => by kernel_rfl)
 clear hs hL hM h1 h2 hst hr hc hh0 hb hk h10 hzb hlo hn1 hret hll hlm hl1 hl2 hslt hglt hcell hget hti hz0 hz1 hz2
 conv => arg 2; whnf; repeat (arg 2; whnf)
 go_wp2_with (fail)
 go_loopw [46] (fun iv wr => ∃ i : Nat,i ≤ nr ∧ iv = .int .i64 i ∧ TkRel h0 W0 wr nr nc (i * nc) (tkL L.alive M.alive C r0 c0 nc (i * nc))) (fun iv _ => nr - (intOf iv).toNat)
 case atStart => exact ⟨0,Nat.zero_le _,rfl,by rw [Nat.zero_mul]; exact HST.out⟩
 case round =>
  obtain ⟨i,hi,rfl,hrel⟩:=hrel
  have HR0:=Jh hrel
  clear hrel
  by_cases hlt : i < nr
  · have hltI : (i : Int) < (nr : Int):=by omega
    obtain ⟨wo,hwo⟩ : ∃ wo : World,wo = wr:=⟨_,rfl⟩
    go_wp2_with (fail)
    go_loopw [50] (fun jv wr => ∃ j : Nat,j ≤ nc ∧ jv = .int .i64 j ∧ TkRel h0 W0 wr nr nc (i * nc + j) (tkL L.alive M.alive C r0 c0 nc (i * nc + j))) (fun jv _ => nc - (intOf jv).toNat)
    case atStart => exact ⟨0,Nat.zero_le _,rfl,HR0.out⟩
    case round =>
     obtain ⟨j,hj,rfl,hrel⟩:=hrel
     by_cases hlj : j < nc
     · have hljI : (j : Int) < (nc : Int):=by omega
       have hkk : i * nc + j < nr * nc:=by
        have : (i + 1) * nc ≤ nr * nc:=Nat.mul_le_mul_right nc hlt
        rw [Nat.succ_mul] at this; omega
       have hkb : nr * nc ≤ 1000 * 1000:=Nat.mul_le_mul (by omega) (by omega)
       obtain ⟨A,cap,xs,hRR⟩:=hrel
       obtain ⟨k,hkd⟩ : ∃ k,k = i * nc + j:=⟨_,rfl⟩
       rw [← hkd] at hRR hkk
       obtain ⟨y,hy⟩ : ∃ y,y = getM C (cellAt L.alive M.alive (r0 + i) (c0 + j)):=⟨_,rfl⟩
       have hce:=HCE.out i j hlt hlj wr hRR.below
       have hge:=HGE.out i j hlt hlj
       have hta : tkAt L.alive M.alive C r0 c0 nc k = (cellAt L.alive M.alive (r0 + i) (c0 + j),y):=by rw [hkd,hy]; exact tkAt_pos hlj
       rw [← hy] at hge
       obtain ⟨ad,had⟩ : ∃ a,a = cellAt L.alive M.alive (r0 + i) (c0 + j):=⟨_,rfl⟩
       rw [← had] at hce hge hta
       clear had hy
       obtain ⟨ra,rn,ca,cn⟩:=ad
       have hge' : ∀ wx,Below wr.heap.size wr wx → Calls Tryz.prog 19 #[.pointer (some ⟨ce,0,none⟩),.agg #[.int .i64 ra,.int .i64 rn,.int .i64 ca,.int .i64 cn]] wx (CopyC wx y):=fun wx hx => hge wx (hRR.below.trans (hx.mono (by have:=hRR.lt; omega)))
       have HGET:=Jh hge'
       have HCALL:=Jh hce
       have HRR:=Jh hRR
       have HIJ:=Jh hkd
       have HY:=Jh hta
       have HK:=Jh (show k + 1 ≤ 1000 * 1000 by omega)
       have HS2:=Jh (show wr.cell? ⟨s,2,none⟩ = some (.pointer (some ⟨ce,0,none⟩)) from cell_of_row _ _ 2 _ _ _ ((hRR.below.block s HS0.out.1).trans HS0.out.2.2.1))
       have hw1 : IntKind.i64.wrap ((r0 : Int) + (i : Int)) = (r0 : Int) + (i : Int):=IntWalk.i64_in _ (by omega)
       have hw2 : IntKind.i64.wrap ((c0 : Int) + (j : Int)) = (c0 : Int) + (j : Int):=IntWalk.i64_in _ (by omega)
       clear hce hge hge' hRR hkd hta hkk hkb
       go_upto_region 13 with (first | (go_at_call 37; refine HCALL.out.mono ?_; rintro e w2 ⟨rfl,hb2⟩; have HB2:=Jh hb2; clear hb2) | (refine wpList_store_row rfl 43 _ _ rfl w2.heap.size #[.int .i64 ra,.int .i64 rn,.int .i64 ca,.int .i64 cn] rfl rfl 43 #[.int .i64 0,.int .i64 0,.int .i64 0,.int .i64 0] (heap_alloc_new _ _) (HC4.out _ _ _ _) rfl (by kernel_rfl) ?_) | fail)
       obtain ⟨g15,hg15⟩ : ∃ x,x = w2.heap.size:=⟨_,rfl⟩
       obtain ⟨w3,hw3⟩ : ∃ x,x = (w2.alloc (.cells #[.int .i64 0,.int .i64 0,.int .i64 0,.int .i64 0] 43)).setRow w2.heap.size #[.int .i64 ra,.int .i64 rn,.int .i64 ca,.int .i64 cn]:=⟨_,rfl⟩
       have hb3 : Below w2.heap.size w2 w3:=by rw [hw3]; exact below_row ((Below.refl _ w2).alloc (Nat.le_refl _) _) (Nat.le_refl _) _
       have hk15 : w3.heap[g15]? = some (.cells #[.int .i64 ra,.int .i64 rn,.int .i64 ca,.int .i64 cn] 43):=by rw [hw3,hg15]; exact setRow_heap _ _ _ _ _ _ (heap_alloc_new _ _)
       have hb03 : Below wr.heap.size wr w3:=HB2.out.trans (hb3.mono HB2.out.size)
       have HW3:=Jh (show Below wr.heap.size wr w3 ∧ w3.heap[g15]? = some (.cells #[.int .i64 ra,.int .i64 rn,.int .i64 ca,.int .i64 cn] 43) ∧ w3.cell? ⟨s,2,none⟩ = some (.pointer (some ⟨ce,0,none⟩)) ∧ w3.cell? ⟨h0,2,none⟩ = some (.slice A k cap) from ⟨hb03,hk15,(World.cell?_of_block (hb03.block s (by have:=HS0.out.1; have:=HRR.out.lt; omega))).trans HS2.out,(World.cell?_of_block (hb03.block h0 HRR.out.lt)).trans HRR.out.cell⟩)
       have HG15:=Jh (show wr.heap.size ≤ g15 ∧ True from ⟨by rw [hg15]; exact HB2.out.size,trivial⟩)
       (try change Code.wp _ _ _ _ ((w2.alloc (.cells #[.int .i64 0,.int .i64 0,.int .i64 0,.int .i64 0] 43)).setRow w2.heap.size #[.int .i64 ra,.int .i64 rn,.int .i64 ca,.int .i64 cn]))
       rw [← hw3,← hg15]
       clear hw3 hg15 hb3 hk15 hb03 HB2 HS2
       refine wp_region_held_drew (S:=fun wz => wz.heap[g15]? = some (.cells #[.int .i64 ra,.int .i64 rn,.int .i64 ca,.int .i64 cn] 43) ∧ wz.cell? ⟨s,2,none⟩ = some (.pointer (some ⟨ce,0,none⟩))) (by kernel_rfl) ⟨show w3.drew.heap[g15]? = _ from HW3.out.2.1,show w3.drew.cell? _ = _ from HW3.out.2.2.1⟩ (fun hHeld => ?_)
       obtain ⟨x0,hx0⟩ : ∃ x,x = w3.drew:=⟨_,rfl⟩
       have HX0 : Hid (Below wr.heap.size wr x0 ∧ x0.cell? ⟨h0,2,none⟩ = some (.slice A k cap)):=Jh (by rw [hx0]; exact ⟨HW3.out.1.drew,HW3.out.2.2.2⟩)
       rw [← hx0] at hHeld ⊢
       clear hx0
       refine tkH (i:=0) (v:=.pointer (some ⟨h0,2,none⟩)) rfl hHeld ?_
       try simp only [sX]
       refine tkG (i:=2) (v:=.agg #[.int .i64 ra,.int .i64 rn,.int .i64 ca,.int .i64 cn]) rfl (yieldsIf_load_mid (by kernel_rfl) 43 _ rfl g15 0 rfl [.int .i64 ra,.int .i64 rn,.int .i64 ca,.int .i64 cn] _ (fun _ hS => ad_range hS.1) undC4 rfl (HIL4.out _ _ _ _)) hHeld ?_
       try simp only [sX]
       refine tkH (i:=3) (v:=.pointer (some ⟨s,0,none⟩)) rfl hHeld ?_
       try simp only [sX]
       refine tkH (i:=4) (v:=.pointer (some ⟨s,0,none⟩)) rfl hHeld ?_
       try simp only [sX]
       refine tkH (i:=5) (v:=.pointer (some ⟨s,2,none⟩)) rfl hHeld ?_
       try simp only [sX]
       refine tkG (i:=6) (v:=.pointer (some ⟨ce,0,none⟩)) rfl (Or.inl ⟨by kernel_rfl,fun _ hS => ldCe_run _ rfl ⟨s,2,none⟩ rfl _ hS.2⟩) hHeld ?_
       try simp only [sX]
       refine tkG (i:=7) (v:=.agg #[.int .i64 ra,.int .i64 rn,.int .i64 ca,.int .i64 cn]) rfl (yieldsIf_load_mid (by kernel_rfl) 43 _ rfl g15 0 rfl [.int .i64 ra,.int .i64 rn,.int .i64 ca,.int .i64 cn] _ (fun _ hS => ad_range hS.1) undC4 rfl (HIL4.out _ _ _ _)) hHeld ?_
       try simp only [sX]
       refine wpAnyH_ready (rs:=[1,8]) (by kernel_rfl) (by simp) ?_
       refine AllReadyH.cons rfl (fun K hK => ?_) (AllReadyH.cons rfl (fun K hK => ?_) AllReadyH.nil)
       · skip
         have hld:=HX0.out.2
         go_simp
         clear hld
         refine hK.out _ _ hHeld (fun hH1 => ?_)
         clear hK K hHeld; have hHeld:=hH1; clear hH1
         try simp only [sX]
         refine wpAnyH_ready (rs:=[8]) (by kernel_rfl) (by simp) ?_
         refine AllReadyH.cons rfl (fun K hK => ?_) AllReadyH.nil
         go_simp
         refine (HGET.out x0 HX0.out.1).mono ?_
         rintro e x1 ⟨A2,c2,rfl,hs2,hb1⟩
         obtain ⟨NA,hNA⟩ : ∃ N,N = acA ⟨ra,rn,ca,cn⟩ y A2 c2:=⟨_,rfl⟩
         have HX1 : Hid (SlZ x1 (fun b => x0.heap.size ≤ b ∧ b < x1.heap.size) A2 c2 y.t.l ∧ Below x0.heap.size x0 x1 ∧ x1.cell? ⟨h0,2,none⟩ = some (.slice A k cap)):=Jh ⟨SlG.toZ hs2,hb1,(World.cell?_of_block (hb1.block h0 (Nat.lt_of_lt_of_le HRR.out.lt HX0.out.1.size))).trans HX0.out.2⟩
         have hSa : x1.heap[g15]? = some (.cells #[.int .i64 ra,.int .i64 rn,.int .i64 ca,.int .i64 cn] 43) ∧ x1.cell? ⟨s,2,none⟩ = some (.pointer (some ⟨ce,0,none⟩)):=⟨(hb1.block g15 (Jg hHeld.1).1).trans hHeld.1,(World.cell?_of_block (hb1.block s (World.block_lt_of_cell? x0 _ hHeld.2))).trans hHeld.2⟩
         clear hs2 hb1
         refine hK.out _ _ hSa (fun hH1 => ?_)
         clear hK K hHeld; have hHeld:=hH1; clear hH1
         try simp only [sX]
         have HNA : Hid (NA = acA ⟨ra,rn,ca,cn⟩ y A2 c2 ∧ NA.size = 33):=Jh ⟨hNA,by rw [hNA]; rfl⟩
         refine tkG (i:=9) (v:=.agg NA) rfl (Or.inl ⟨by kernel_rfl,fun _ hS => by rw [hNA]; kernel_rfl⟩) hHeld ?_
         try simp only [sX]
         clear hNA hSa
         refine wpAnyH_ready (rs:=[10]) (by kernel_rfl) (by simp) ?_
         refine AllReadyH.cons rfl (fun K hK => ?_) AllReadyH.nil
         refine step_oneTk rfl 73 rfl NA rfl HNA.out.2 ?_
         obtain ⟨x2,hx2⟩ : ∃ x,x = x1.alloc (.cells NA 100):=⟨_,rfl⟩
         obtain ⟨g74,hg74⟩ : ∃ g,g = x1.heap.size:=⟨_,rfl⟩
         rw [← hx2,← hg74]
         have hb2 : Below x1.heap.size x1 x2:=by rw [hx2]; exact (Below.refl _ x1).alloc (Nat.le_refl _) _
         have hk2 : x2.heap[g74]? = some (.cells NA 100):=by rw [hx2,hg74]; exact heap_alloc_new _ _
         have HX2 : Hid (x2 = x1.alloc (.cells NA 100) ∧ g74 = x1.heap.size ∧ x2.heap[g74]? = some (.cells NA 100) ∧ x2.cell? ⟨h0,2,none⟩ = some (.slice A k cap)):=Jh ⟨hx2,hg74,hk2,(World.cell?_of_block (hb2.block h0 (Nat.lt_of_lt_of_le HRR.out.lt (Nat.le_trans HX0.out.1.size HX1.out.2.1.size)))).trans HX1.out.2.2⟩
         have hSa : x2.heap[g15]? = some (.cells #[.int .i64 ra,.int .i64 rn,.int .i64 ca,.int .i64 cn] 43) ∧ x2.cell? ⟨s,2,none⟩ = some (.pointer (some ⟨ce,0,none⟩)):=⟨(hb2.block g15 (Jg hHeld.1).1).trans hHeld.1,(World.cell?_of_block (hb2.block s (World.block_lt_of_cell? x1 _ hHeld.2))).trans hHeld.2⟩
         clear hx2 hg74 hb2 hk2
         refine hK.out _ _ hSa (fun hH1 => ?_)
         clear hK K hHeld; have hHeld:=hH1; clear hH1
         try simp only [sX]
         clear hSa
         refine wpAnyH_ready (rs:=[11]) (by kernel_rfl) (by simp) ?_
         refine AllReadyH.cons rfl (fun K hK => ?_) AllReadyH.nil
         have hown2 : x2.ownsRow (h0 + 1) 100 33 (.slice A k cap) k xs:=HRR.out.own2 HX0.out.1 HX1.out.2.1 HX2.out.1
         have hone : ∀ u ∈ NA.toList,u.oneCell' = true:=by rw [HNA.out.1]; exact acA_one' _ _ _ _
         have hbs : h0 + 1 ≤ x2.heap.size:=by rw [HX2.out.1,World.size_alloc]; have:=HX1.out.2.1.size; have:=HX0.out.1.size; have:=HRR.out.lt; omega
         refine step_append_lies _ rfl (.tmp 65) (.tmp 74) 34 rfl (h0 + 1) 100 ti _ 33 288 undTks HTI.out.1 HTI.out.2.1 HTI.out.2.2.1 HTI.out.2.2.2 rfl (by decide) (.slice A k cap) k xs rfl hown2 ⟨g74,0,none⟩ 1 1 NA.toList rfl (by simp [HNA.out.2]) (World.news_of_block HX2.out.2.2.1) hone (by decide) (by unfold maxLen; have:=HK.out; omega) (by have:=HK.out; omega) hbs (g74 + 1) (by rw [HX2.out.1,HX2.out.2.1,World.size_alloc]) ?_
         intro g2 cap2 x3 hown3 hgrow hat hlt3
         have hf : x3.cell? ⟨h0,2,none⟩ = some (.slice A k cap):=(World.cell?_of_block (hgrow.block h0 (World.block_lt_of_cell? x2 _ HX2.out.2.2.2) (owns_neT HRR.out.own (by omega)))).trans HX2.out.2.2.2
         have hSa : x3.heap[g15]? = some (.cells #[.int .i64 ra,.int .i64 rn,.int .i64 ca,.int .i64 cn] 43) ∧ x3.cell? ⟨s,2,none⟩ = some (.pointer (some ⟨ce,0,none⟩)):=⟨(hgrow.block g15 (Jg hHeld.1).1 (owns_ne2T HRR.out.own HG15.out.1)).trans hHeld.1,(World.cell?_of_block (hgrow.block s (World.block_lt_of_cell? x2 _ hHeld.2) (owns_neT HRR.out.own (by have:=HS0.out.1; omega)))).trans hHeld.2⟩
         have HX3 : Hid (x3.ownsRow (h0 + 1) 100 33 (.slice (some ⟨g2,0,none⟩) (k + 1) cap2) (k + 1) (xs ++ NA.toList) ∧ x2.grownBy x3 (Value.slice A k cap).ownBlock ∧ ((Value.slice A k cap).ownBlock = some g2 ∨ g2 = g74 + 1) ∧ x3.frozen? ⟨h0,2,none⟩ = false):=Jh ⟨hown3,hgrow,hat,HRR.out.frozen HX0.out.1 HX1.out.2.1 HX2.out.1 hgrow⟩
         have hX:=hf
         clear hown2 hone hbs hown3 hgrow hat hlt3 hf
         refine hK.out _ _ hSa (fun hH1 => ?_)
         clear hK K hHeld; have hHeld:=hH1; clear hH1
         try simp only [sX]
         clear hSa
         refine wpAnyH_ready (rs:=[12]) (by kernel_rfl) (by simp) ?_
         refine AllReadyH.cons rfl (fun K hK => ?_) AllReadyH.nil
         go_simp
         refine hK.out _ _ hHeld (fun hH1 => ?_)
         clear hK K hHeld; have hHeld:=hH1; clear hH1
         try simp only [sX]
         refine wpAnyH_ready (rs:=[13]) (by kernel_rfl) (by simp) ?_
         refine AllReadyH.cons rfl (fun K hK => ?_) AllReadyH.nil
         have hfz:=HX3.out.2.2.2
         go_simp
         have hSa : (x3.setCell ⟨h0,2,none⟩ (.slice (some ⟨g2,0,none⟩) (k + 1) cap2)).heap[g15]? = some (.cells #[.int .i64 ra,.int .i64 rn,.int .i64 ca,.int .i64 cn] 43) ∧ (x3.setCell ⟨h0,2,none⟩ (.slice (some ⟨g2,0,none⟩) (k + 1) cap2)).cell? ⟨s,2,none⟩ = some (.pointer (some ⟨ce,0,none⟩)):=⟨(Below.heap_setCell _ _ _ _ (by show g15 ≠ h0; have:=HG15.out.1; have:=HRR.out.lt; omega)).trans hHeld.1,(World.cell?_of_block (Below.heap_setCell _ _ _ _ (by show s ≠ h0; have:=HS0.out.1; omega))).trans hHeld.2⟩
         refine hK.out _ _ hSa (fun hH1 => ?_)
         clear hK K hHeld; have hHeld:=hH1; clear hH1
         try simp only [sX]
         clear hSa hfz
         refine wpAnyH_done (by kernel_rfl) ?_ _
         clear hHeld hX
         go_wp2_with fail
         go_roundw
         case measure => simp [intOf]; omega
         case rel =>
          obtain ⟨e1,e2,e3,e4⟩:=HX3.out
          obtain ⟨f1,f2,f3,f4⟩:=HX2.out
          rw [HNA.out.1] at e1 f1
          rw [f1] at e2; rw [f2] at e3
          exact ⟨j + 1,by omega,by go_num,TkRel.step' HIJ.out HRR.out HX1.out.1 HX0.out.1 HX1.out.2.1 e2 e1 e3 HY.out⟩
       · skip
         go_simp
         refine (HGET.out x0 HX0.out.1).mono ?_
         rintro e x1 ⟨A2,c2,rfl,hs2,hb1⟩
         obtain ⟨NA,hNA⟩ : ∃ N,N = acA ⟨ra,rn,ca,cn⟩ y A2 c2:=⟨_,rfl⟩
         have HX1 : Hid (SlZ x1 (fun b => x0.heap.size ≤ b ∧ b < x1.heap.size) A2 c2 y.t.l ∧ Below x0.heap.size x0 x1 ∧ x1.cell? ⟨h0,2,none⟩ = some (.slice A k cap)):=Jh ⟨SlG.toZ hs2,hb1,(World.cell?_of_block (hb1.block h0 (Nat.lt_of_lt_of_le HRR.out.lt HX0.out.1.size))).trans HX0.out.2⟩
         have hSa : x1.heap[g15]? = some (.cells #[.int .i64 ra,.int .i64 rn,.int .i64 ca,.int .i64 cn] 43) ∧ x1.cell? ⟨s,2,none⟩ = some (.pointer (some ⟨ce,0,none⟩)):=⟨(hb1.block g15 (Jg hHeld.1).1).trans hHeld.1,(World.cell?_of_block (hb1.block s (World.block_lt_of_cell? x0 _ hHeld.2))).trans hHeld.2⟩
         clear hs2 hb1
         refine hK.out _ _ hSa (fun hH1 => ?_)
         clear hK K hHeld; have hHeld:=hH1; clear hH1
         try simp only [sX]
         have HNA : Hid (NA = acA ⟨ra,rn,ca,cn⟩ y A2 c2 ∧ NA.size = 33):=Jh ⟨hNA,by rw [hNA]; rfl⟩
         refine tkG (i:=9) (v:=.agg NA) rfl (Or.inl ⟨by kernel_rfl,fun _ hS => by rw [hNA]; kernel_rfl⟩) hHeld ?_
         try simp only [sX]
         clear hNA hSa
         refine wpAnyH_ready (rs:=[1,10]) (by kernel_rfl) (by simp) ?_
         refine AllReadyH.cons rfl (fun K hK => ?_) (AllReadyH.cons rfl (fun K hK => ?_) AllReadyH.nil)
         · skip
           have hld:=HX1.out.2.2
           go_simp
           clear hld
           refine hK.out _ _ hHeld (fun hH1 => ?_)
           clear hK K hHeld; have hHeld:=hH1; clear hH1
           try simp only [sX]
           refine wpAnyH_ready (rs:=[10]) (by kernel_rfl) (by simp) ?_
           refine AllReadyH.cons rfl (fun K hK => ?_) AllReadyH.nil
           refine step_oneTk rfl 73 rfl NA rfl HNA.out.2 ?_
           obtain ⟨x2,hx2⟩ : ∃ x,x = x1.alloc (.cells NA 100):=⟨_,rfl⟩
           obtain ⟨g74,hg74⟩ : ∃ g,g = x1.heap.size:=⟨_,rfl⟩
           rw [← hx2,← hg74]
           have hb2 : Below x1.heap.size x1 x2:=by rw [hx2]; exact (Below.refl _ x1).alloc (Nat.le_refl _) _
           have hk2 : x2.heap[g74]? = some (.cells NA 100):=by rw [hx2,hg74]; exact heap_alloc_new _ _
           have HX2 : Hid (x2 = x1.alloc (.cells NA 100) ∧ g74 = x1.heap.size ∧ x2.heap[g74]? = some (.cells NA 100) ∧ x2.cell? ⟨h0,2,none⟩ = some (.slice A k cap)):=Jh ⟨hx2,hg74,hk2,(World.cell?_of_block (hb2.block h0 (Nat.lt_of_lt_of_le HRR.out.lt (Nat.le_trans HX0.out.1.size HX1.out.2.1.size)))).trans HX1.out.2.2⟩
           have hSa : x2.heap[g15]? = some (.cells #[.int .i64 ra,.int .i64 rn,.int .i64 ca,.int .i64 cn] 43) ∧ x2.cell? ⟨s,2,none⟩ = some (.pointer (some ⟨ce,0,none⟩)):=⟨(hb2.block g15 (Jg hHeld.1).1).trans hHeld.1,(World.cell?_of_block (hb2.block s (World.block_lt_of_cell? x1 _ hHeld.2))).trans hHeld.2⟩
           clear hx2 hg74 hb2 hk2
           refine hK.out _ _ hSa (fun hH1 => ?_)
           clear hK K hHeld; have hHeld:=hH1; clear hH1
           try simp only [sX]
           clear hSa
           refine wpAnyH_ready (rs:=[11]) (by kernel_rfl) (by simp) ?_
           refine AllReadyH.cons rfl (fun K hK => ?_) AllReadyH.nil
           have hown2 : x2.ownsRow (h0 + 1) 100 33 (.slice A k cap) k xs:=HRR.out.own2 HX0.out.1 HX1.out.2.1 HX2.out.1
           have hone : ∀ u ∈ NA.toList,u.oneCell' = true:=by rw [HNA.out.1]; exact acA_one' _ _ _ _
           have hbs : h0 + 1 ≤ x2.heap.size:=by rw [HX2.out.1,World.size_alloc]; have:=HX1.out.2.1.size; have:=HX0.out.1.size; have:=HRR.out.lt; omega
           refine step_append_lies _ rfl (.tmp 65) (.tmp 74) 34 rfl (h0 + 1) 100 ti _ 33 288 undTks HTI.out.1 HTI.out.2.1 HTI.out.2.2.1 HTI.out.2.2.2 rfl (by decide) (.slice A k cap) k xs rfl hown2 ⟨g74,0,none⟩ 1 1 NA.toList rfl (by simp [HNA.out.2]) (World.news_of_block HX2.out.2.2.1) hone (by decide) (by unfold maxLen; have:=HK.out; omega) (by have:=HK.out; omega) hbs (g74 + 1) (by rw [HX2.out.1,HX2.out.2.1,World.size_alloc]) ?_
           intro g2 cap2 x3 hown3 hgrow hat hlt3
           have hf : x3.cell? ⟨h0,2,none⟩ = some (.slice A k cap):=(World.cell?_of_block (hgrow.block h0 (World.block_lt_of_cell? x2 _ HX2.out.2.2.2) (owns_neT HRR.out.own (by omega)))).trans HX2.out.2.2.2
           have hSa : x3.heap[g15]? = some (.cells #[.int .i64 ra,.int .i64 rn,.int .i64 ca,.int .i64 cn] 43) ∧ x3.cell? ⟨s,2,none⟩ = some (.pointer (some ⟨ce,0,none⟩)):=⟨(hgrow.block g15 (Jg hHeld.1).1 (owns_ne2T HRR.out.own HG15.out.1)).trans hHeld.1,(World.cell?_of_block (hgrow.block s (World.block_lt_of_cell? x2 _ hHeld.2) (owns_neT HRR.out.own (by have:=HS0.out.1; omega)))).trans hHeld.2⟩
           have HX3 : Hid (x3.ownsRow (h0 + 1) 100 33 (.slice (some ⟨g2,0,none⟩) (k + 1) cap2) (k + 1) (xs ++ NA.toList) ∧ x2.grownBy x3 (Value.slice A k cap).ownBlock ∧ ((Value.slice A k cap).ownBlock = some g2 ∨ g2 = g74 + 1) ∧ x3.frozen? ⟨h0,2,none⟩ = false):=Jh ⟨hown3,hgrow,hat,HRR.out.frozen HX0.out.1 HX1.out.2.1 HX2.out.1 hgrow⟩
           have hX:=hf
           clear hown2 hone hbs hown3 hgrow hat hlt3 hf
           refine hK.out _ _ hSa (fun hH1 => ?_)
           clear hK K hHeld; have hHeld:=hH1; clear hH1
           try simp only [sX]
           clear hSa
           refine wpAnyH_ready (rs:=[12]) (by kernel_rfl) (by simp) ?_
           refine AllReadyH.cons rfl (fun K hK => ?_) AllReadyH.nil
           go_simp
           refine hK.out _ _ hHeld (fun hH1 => ?_)
           clear hK K hHeld; have hHeld:=hH1; clear hH1
           try simp only [sX]
           refine wpAnyH_ready (rs:=[13]) (by kernel_rfl) (by simp) ?_
           refine AllReadyH.cons rfl (fun K hK => ?_) AllReadyH.nil
           have hfz:=HX3.out.2.2.2
           go_simp
           have hSa : (x3.setCell ⟨h0,2,none⟩ (.slice (some ⟨g2,0,none⟩) (k + 1) cap2)).heap[g15]? = some (.cells #[.int .i64 ra,.int .i64 rn,.int .i64 ca,.int .i64 cn] 43) ∧ (x3.setCell ⟨h0,2,none⟩ (.slice (some ⟨g2,0,none⟩) (k + 1) cap2)).cell? ⟨s,2,none⟩ = some (.pointer (some ⟨ce,0,none⟩)):=⟨(Below.heap_setCell _ _ _ _ (by show g15 ≠ h0; have:=HG15.out.1; have:=HRR.out.lt; omega)).trans hHeld.1,(World.cell?_of_block (Below.heap_setCell _ _ _ _ (by show s ≠ h0; have:=HS0.out.1; omega))).trans hHeld.2⟩
           refine hK.out _ _ hSa (fun hH1 => ?_)
           clear hK K hHeld; have hHeld:=hH1; clear hH1
           try simp only [sX]
           clear hSa hfz
           refine wpAnyH_done (by kernel_rfl) ?_ _
           clear hHeld hX
           go_wp2_with fail
           go_roundw
           case measure => simp [intOf]; omega
           case rel =>
            obtain ⟨e1,e2,e3,e4⟩:=HX3.out
            obtain ⟨f1,f2,f3,f4⟩:=HX2.out
            rw [HNA.out.1] at e1 f1
            rw [f1] at e2; rw [f2] at e3
            exact ⟨j + 1,by omega,by go_num,TkRel.step' HIJ.out HRR.out HX1.out.1 HX0.out.1 HX1.out.2.1 e2 e1 e3 HY.out⟩
         · skip
           refine step_oneTk rfl 73 rfl NA rfl HNA.out.2 ?_
           obtain ⟨x2,hx2⟩ : ∃ x,x = x1.alloc (.cells NA 100):=⟨_,rfl⟩
           obtain ⟨g74,hg74⟩ : ∃ g,g = x1.heap.size:=⟨_,rfl⟩
           rw [← hx2,← hg74]
           have hb2 : Below x1.heap.size x1 x2:=by rw [hx2]; exact (Below.refl _ x1).alloc (Nat.le_refl _) _
           have hk2 : x2.heap[g74]? = some (.cells NA 100):=by rw [hx2,hg74]; exact heap_alloc_new _ _
           have HX2 : Hid (x2 = x1.alloc (.cells NA 100) ∧ g74 = x1.heap.size ∧ x2.heap[g74]? = some (.cells NA 100) ∧ x2.cell? ⟨h0,2,none⟩ = some (.slice A k cap)):=Jh ⟨hx2,hg74,hk2,(World.cell?_of_block (hb2.block h0 (Nat.lt_of_lt_of_le HRR.out.lt (Nat.le_trans HX0.out.1.size HX1.out.2.1.size)))).trans HX1.out.2.2⟩
           have hSa : x2.heap[g15]? = some (.cells #[.int .i64 ra,.int .i64 rn,.int .i64 ca,.int .i64 cn] 43) ∧ x2.cell? ⟨s,2,none⟩ = some (.pointer (some ⟨ce,0,none⟩)):=⟨(hb2.block g15 (Jg hHeld.1).1).trans hHeld.1,(World.cell?_of_block (hb2.block s (World.block_lt_of_cell? x1 _ hHeld.2))).trans hHeld.2⟩
           clear hx2 hg74 hb2 hk2
           refine hK.out _ _ hSa (fun hH1 => ?_)
           clear hK K hHeld; have hHeld:=hH1; clear hH1
           try simp only [sX]
           clear hSa
           refine wpAnyH_ready (rs:=[1]) (by kernel_rfl) (by simp) ?_
           refine AllReadyH.cons rfl (fun K hK => ?_) AllReadyH.nil
           have hld:=HX2.out.2.2.2
           go_simp
           clear hld
           refine hK.out _ _ hHeld (fun hH1 => ?_)
           clear hK K hHeld; have hHeld:=hH1; clear hH1
           try simp only [sX]
           refine wpAnyH_ready (rs:=[11]) (by kernel_rfl) (by simp) ?_
           refine AllReadyH.cons rfl (fun K hK => ?_) AllReadyH.nil
           have hown2 : x2.ownsRow (h0 + 1) 100 33 (.slice A k cap) k xs:=HRR.out.own2 HX0.out.1 HX1.out.2.1 HX2.out.1
           have hone : ∀ u ∈ NA.toList,u.oneCell' = true:=by rw [HNA.out.1]; exact acA_one' _ _ _ _
           have hbs : h0 + 1 ≤ x2.heap.size:=by rw [HX2.out.1,World.size_alloc]; have:=HX1.out.2.1.size; have:=HX0.out.1.size; have:=HRR.out.lt; omega
           refine step_append_lies _ rfl (.tmp 65) (.tmp 74) 34 rfl (h0 + 1) 100 ti _ 33 288 undTks HTI.out.1 HTI.out.2.1 HTI.out.2.2.1 HTI.out.2.2.2 rfl (by decide) (.slice A k cap) k xs rfl hown2 ⟨g74,0,none⟩ 1 1 NA.toList rfl (by simp [HNA.out.2]) (World.news_of_block HX2.out.2.2.1) hone (by decide) (by unfold maxLen; have:=HK.out; omega) (by have:=HK.out; omega) hbs (g74 + 1) (by rw [HX2.out.1,HX2.out.2.1,World.size_alloc]) ?_
           intro g2 cap2 x3 hown3 hgrow hat hlt3
           have hf : x3.cell? ⟨h0,2,none⟩ = some (.slice A k cap):=(World.cell?_of_block (hgrow.block h0 (World.block_lt_of_cell? x2 _ HX2.out.2.2.2) (owns_neT HRR.out.own (by omega)))).trans HX2.out.2.2.2
           have hSa : x3.heap[g15]? = some (.cells #[.int .i64 ra,.int .i64 rn,.int .i64 ca,.int .i64 cn] 43) ∧ x3.cell? ⟨s,2,none⟩ = some (.pointer (some ⟨ce,0,none⟩)):=⟨(hgrow.block g15 (Jg hHeld.1).1 (owns_ne2T HRR.out.own HG15.out.1)).trans hHeld.1,(World.cell?_of_block (hgrow.block s (World.block_lt_of_cell? x2 _ hHeld.2) (owns_neT HRR.out.own (by have:=HS0.out.1; omega)))).trans hHeld.2⟩
           have HX3 : Hid (x3.ownsRow (h0 + 1) 100 33 (.slice (some ⟨g2,0,none⟩) (k + 1) cap2) (k + 1) (xs ++ NA.toList) ∧ x2.grownBy x3 (Value.slice A k cap).ownBlock ∧ ((Value.slice A k cap).ownBlock = some g2 ∨ g2 = g74 + 1) ∧ x3.frozen? ⟨h0,2,none⟩ = false):=Jh ⟨hown3,hgrow,hat,HRR.out.frozen HX0.out.1 HX1.out.2.1 HX2.out.1 hgrow⟩
           have hX:=hf
           clear hown2 hone hbs hown3 hgrow hat hlt3 hf
           refine hK.out _ _ hSa (fun hH1 => ?_)
           clear hK K hHeld; have hHeld:=hH1; clear hH1
           try simp only [sX]
           clear hSa
           refine wpAnyH_ready (rs:=[12]) (by kernel_rfl) (by simp) ?_
           refine AllReadyH.cons rfl (fun K hK => ?_) AllReadyH.nil
           go_simp
           refine hK.out _ _ hHeld (fun hH1 => ?_)
           clear hK K hHeld; have hHeld:=hH1; clear hH1
           try simp only [sX]
           refine wpAnyH_ready (rs:=[13]) (by kernel_rfl) (by simp) ?_
           refine AllReadyH.cons rfl (fun K hK => ?_) AllReadyH.nil
           have hfz:=HX3.out.2.2.2
           go_simp
           have hSa : (x3.setCell ⟨h0,2,none⟩ (.slice (some ⟨g2,0,none⟩) (k + 1) cap2)).heap[g15]? = some (.cells #[.int .i64 ra,.int .i64 rn,.int .i64 ca,.int .i64 cn] 43) ∧ (x3.setCell ⟨h0,2,none⟩ (.slice (some ⟨g2,0,none⟩) (k + 1) cap2)).cell? ⟨s,2,none⟩ = some (.pointer (some ⟨ce,0,none⟩)):=⟨(Below.heap_setCell _ _ _ _ (by show g15 ≠ h0; have:=HG15.out.1; have:=HRR.out.lt; omega)).trans hHeld.1,(World.cell?_of_block (Below.heap_setCell _ _ _ _ (by show s ≠ h0; have:=HS0.out.1; omega))).trans hHeld.2⟩
           refine hK.out _ _ hSa (fun hH1 => ?_)
           clear hK K hHeld; have hHeld:=hH1; clear hH1
           try simp only [sX]
           clear hSa hfz
           refine wpAnyH_done (by kernel_rfl) ?_ _
           clear hHeld hX
           go_wp2_with fail
           go_roundw
           case measure => simp [intOf]; omega
           case rel =>
            obtain ⟨e1,e2,e3,e4⟩:=HX3.out
            obtain ⟨f1,f2,f3,f4⟩:=HX2.out
            rw [HNA.out.1] at e1 f1
            rw [f1] at e2; rw [f2] at e3
            exact ⟨j + 1,by omega,by go_num,TkRel.step' HIJ.out HRR.out HX1.out.1 HX0.out.1 HX1.out.2.1 e2 e1 e3 HY.out⟩
     · obtain rfl : j = nc:=by omega
       have hnl : ¬ (j : Int) < (j : Int):=by omega
       have HR1:=Jh hrel
       clear hrel
       go_wp2_with (fail)
       go_roundw
       case measure => simp [intOf]; omega
       case rel => exact ⟨i + 1,by omega,by go_num,by rw [Nat.succ_mul]; exact HR1.out⟩
  · obtain rfl : i = nr:=by omega
    have hnl : ¬ (i : Int) < (i : Int):=by omega
    obtain ⟨A,cap,xs,hRR⟩:=HR0.out
    have HRR:=Jh hRR
    have hcap : i * nc ≤ cap ∧ cap ≤ 9223372036854775807:=by obtain ⟨_,_,e,h1,h2⟩:=own_parts hRR.own; cases e; exact ⟨h1,h2⟩
    obtain ⟨N,hN⟩ : ∃ N : Array Value,N = #[.int .i64 i,.int .i64 nc,.slice A (i * nc) cap]:=⟨_,rfl⟩
    have hk:=hRR.blk
    rw [← hN] at hk
    have hzk : wr.heap[g10]? = some (.cells zb 36):=(hRR.below.block g10 HS0.out.2.1).trans HS0.out.2.2.2
    have HBK:=Jh (show wr.heap[h0]? = some (.cells N 36) ∧ N.size = 3 ∧ N.all (·.oneCell') = true from ⟨hk,by rw [hN]; rfl,by rw [hN]; kernel_rfl⟩)
    have HZK:=Jh hzk
    have HIB:=Jh (show (Tryz.prog.info? 36).map (·.size) = some N.size by rw [hN]; exact infB3 _ _ _)
    have HFN:=Jh (HRR.out.fin HS0.out.2.1 HLO.out.1 HLO.out.2.2.1 (Nat.mul_pos HLO.out.2.2.2.1 HLO.out.2.2.2.2) N)
    have HN:=Jh hN
    have HCAP:=Jh hcap
    have hfz : wr.frozen? ⟨g10,0,none⟩ = false:=by simp [World.frozen?,hzk]
    clear hRR hcap hk hzk hN
    go_wp2_with (first | (refine wpList_row rfl 36 _ rfl h0 rfl 36 N (0,0) _ HBK.out.1 undBk rfl HIB.out ?_) | (refine wpList_store_row rfl 36 _ _ rfl g10 N rfl rfl 36 zb HZK.out HIB.out (HLO.out.2.1.trans HBK.out.2.1.symm) HBK.out.2.2 ?_) | fail)
    refine bodyPost_ret (v:=.tuple #[.agg N,.int .i64 0]) (results_cell_flagA (p:=10) (u:=11) rfl _ _ g10 36 N (0,0) _ rfl (setRow_heap _ _ _ _ _ _ HZK.out) undBk rfl HIB.out) rfl ?_
    have hfin:=HRET.out _ A cap HFN.out.1 HCAP.out.1 HCAP.out.2 HFN.out.2
    rw [← HN.out] at hfin
    exact hfin
end Go.Proofs.YtjobojfaocihfaaGreat
namespace Go.Proofs.YtjobojfaocihfaaGreat
set_option linter.unusedSimpArgs false
set_option linter.unusedVariables false
open Go Go.RowKit Go.Shelf Go.Maps
theorem AxRd.keep {w w' : World} {p q : Nat} {L : IL} (h : AxRd w q L) {cs : Array Value} (hp : w.heap[p]? = some (.cells cs 129)) (hk : KeepA p w w') (hne : q ≠ p) : AxRd w' q L:=by
 have hr : ∀ {e : TypeId} {size : Nat} {v : Value} {n : Nat} {xs : List Value},w.ownsRow 0 e size v n xs → e ≠ 129 → w'.ownsRow 0 e size v n xs:=fun h1 h2 => keep_row hk hp h1 h2
 obtain ⟨Ai,ci,Al,cl,b,Aa,ca,Av,cv,h⟩:=h
 refine ⟨Ai,ci,Al,cl,b,Aa,ca,Av,cv,(hk.block q (Jg h.own).1 hne).trans h.own,hr h.ids (by decide),hr h.lives (by decide),?_,hr h.ahead (by decide),hr h.alive (by decide)⟩
 obtain ⟨es,clock,e1,e2⟩:=h.map
 have hbp : b ≠ p:=fun e => by rw [e,hp] at e1; cases e1
 exact ⟨es,clock,(hk.block b (Jg e1).1 hbp).trans e1,e2⟩
theorem KeepA.z {p : Nat} {Z : Nat → Prop} {a b : World} (h : KeepA p a b) (hz : Z p) : KeepZ Z a b:=⟨h.os,h.tape,h.output,h.size,fun k hk hn => h.block k hk (fun e => hn (e ▸ hz))⟩
end Go.Proofs.YtjobojfaocihfaaGreat
namespace Go.Proofs.YtjobojfaocihfaaGreat
set_option linter.unusedSimpArgs false
set_option linter.unusedVariables false
open Go Go.RowKit Go.Shelf Go.Maps
def TakePost (p q : Nat) (L M : IL) (es : List (Ad × Ct)) (nr nc : Nat) (w : World) (e : Ending) (w' : World) : Prop :=
 ∃ A cap,e = .returned (.tuple #[.agg #[.int .i64 nr,.int .i64 nc,.slice A (nr * nc) cap],.int .i64 0]) ∧ nr * nc ≤ cap ∧ cap ≤ 9223372036854775807 ∧ BlkAt w' (fun k => w.heap.size ≤ k ∧ k < w'.heap.size) A es ∧ AxRd w' p L ∧ AxRd w' q M ∧ KeepZ (fun b => b = p ∨ b = q) w w'
theorem thereB_of {m a c : Nat} (h : a + c ≤ m) (hc : 1 ≤ c) : thereB (m : Int) (a : Int) (c : Int) = true:=by
 unfold thereB
 simp only [Bool.and_eq_true,decide_eq_true_eq]
 omega
end Go.Proofs.YtjobojfaocihfaaGreat
namespace Go.Proofs.YtjobojfaocihfaaGreat
set_option maxRecDepth 100000
set_option maxHeartbeats 4000000
set_option linter.unusedSimpArgs false
set_option linter.unusedVariables false
open Go Go.RowKit Go.Shelf Go.Maps
abbrev KeepS (w w' : World) : Prop:=Below w.heap.size w w'
theorem KeepS.trans {a b c : World} (h : KeepS a b) (h' : KeepS b c) : KeepS a c:=Below.trans h (Below.mono h' (Below.size h))
theorem KeepS.of {a b : World} (h : Below a.heap.size a b) : KeepS a b:=h
def ShiftPostR (p q : Nat) (L M : IL) (w : World) (r : Tr) (e : Ending) (w' : World) : Prop:=∃ A c,e = .returned (nodeV r.d A r.l.length c) ∧ r.d.ok ∧ SlG w' (fun b _ => w.heap.size ≤ b ∧ b < w'.heap.size) A c r.l ∧ AxRd w' p L ∧ AxRd w' q M ∧ Below w.heap.size w w'
theorem wayR_c {w : World} {p : Nat} {L : IL} (h : AxRd w p L) (hgd : L.Ok) (x y : Ik) (hx : x.ok) (hy : y.ok) :
 Calls Tryz.prog 57 #[.pointer (some ⟨p,0,none⟩),.agg #[.int .i64 x.a,.int .i64 x.n],.agg #[.int .i64 y.a,.int .i64 y.n]] w fun e w' => e = .returned (.tuple #[.int .i64 (wayZ L.alive x y),.bool (wayI L.alive x y).isSome]) ∧ AxRd w' p L ∧ Below w.heap.size w w':=by
 obtain ⟨g,hg⟩ : ∃ g,g = w.heap.size:=⟨_,rfl⟩
 obtain ⟨W,hW⟩ : ∃ W,W = (w.alloc (.cells #[.int .i64 x.a,.int .i64 x.n] 41)).alloc (.cells #[.int .i64 y.a,.int .i64 y.n] 41):=⟨_,rfl⟩
 have hbW : Below w.heap.size w W:=by rw [hW]; exact ((Below.refl _ w).alloc (Nat.le_refl _) _).alloc (by simp) _
 have hk : W.heap[g]? = some (.cells #[.int .i64 x.a,.int .i64 x.n] 41):=by rw [hW,hg]; exact (heapOld _ _ _ (by simp)).trans (heap_alloc_new w _)
 have hk2 : W.heap[g + 1]? = some (.cells #[.int .i64 y.a,.int .i64 y.n] 41):=by
  rw [hW,hg]; have:=heap_alloc_new (w.alloc (.cells #[.int .i64 x.a,.int .i64 x.n] 41)) (.cells #[.int .i64 y.a,.int .i64 y.n] 41); rwa [World.size_alloc] at this
 have hpg : p < g:=by rw [hg]; exact h.lt
 have hsz : W.heap.size = g + 2:=by rw [hW,hg]; simp
 have HP1:=Jh ((placeRd_c (h.below hbW) hgd x hx).mono (fun e w' h2 => (⟨h2.1,(h.below hbW).below h2.2,h2.2⟩ : _ ∧ AxRd w' p L ∧ Below W.heap.size W w')))
 have HP2:=Jh (fun (W : World) (h : AxRd W p L) => placeRd_c h hgd y hy)
 have HIA:=Jh (show ∀ a b : Value,(Tryz.prog.info? 41).map (·.size) = some (#[a,b] : Array Value).size from fun _ _ => infIk)
 have la:=hgd.len
 have lb:=IL.alive_len L
 have l1:=placeL_le (l:=L.alive) x
 have l2:=placeL_le (l:=L.alive) y
 unfold wayZ
 rw [wayI_isSome]
 generalize (placeL L.alive x).isSome = fx at HP1 ⊢
 generalize (placeL L.alive y).isSome = fy at HP2 ⊢
 obtain ⟨zx,hzx⟩ : ∃ zx,(placeL L.alive x).getD 0 = zx:=⟨_,rfl⟩
 obtain ⟨zy,hzy⟩ : ∃ zy,(placeL L.alive y).getD 0 = zy:=⟨_,rfl⟩
 rw [hzx] at l1 HP1 ⊢
 rw [hzy] at l2 HP2 ⊢
 have l3 : zx ≤ 1000:=by omega
 have l4 : zy ≤ 1000:=by omega
 have HG:=Jh hg
 have HB:=Jh hbW
 have HK:=Jh hk
 have HK2:=Jh hk2
 have HPG:=Jh hpg
 have HS:=Jh hsz
 clear hg hbW hk hk2 hpg hsz h hgd hx hy la lb l1 l2 hzx hzy
 obtain ⟨xa,xn⟩:=x
 obtain ⟨ya,yn⟩:=y
 have HW:=Jh hW
 clear hW
 dsimp only at HP1 HP2 HK HK2 HW ⊢
 go_enter Tryz.func57,Tryz.ntmps57
 go_upto_region 1 with (fail)
 rw [← HW.out,← HG.out]
 go_upto_region 2 with (first | (refine wpList_row rfl 41 _ rfl g rfl 41 #[.int .i64 xa,.int .i64 xn] (0,0) _ HK.out ikUnd rfl (HIA.out _ _) ?_) | (go_at_call 96; refine HP1.out.mono ?_; rintro e w1 ⟨rfl,hRD⟩; have HRD:=Jh hRD; clear hRD))
 have hk3 : w1.heap[g + 1]? = some (.cells #[.int .i64 ya,.int .i64 yn] 41):=(HRD.out.2.block (g + 1) (Jg HK2.out).1).trans HK2.out
 have HK3:=Jh hk3
 have HP3:=Jh (HP2.out w1 HRD.out.1)
 clear hk3
 go_upto_region 3 with (first | (refine wpList_row rfl 41 _ rfl (g + 1) rfl 41 #[.int .i64 ya,.int .i64 yn] (0,0) _ HK3.out ikUnd rfl (HIA.out _ _) ?_) | (go_at_call 96; refine HP3.out.mono ?_; rintro e w2 ⟨rfl,hRE⟩; have HRE:=Jh hRE; clear hRE))
 have HF:=Jh (show AxRd w2 p L ∧ Below w.heap.size w w2 from ⟨HRD.out.1.below HRE.out,(KeepS.trans (KeepS.trans HB.out HRD.out.2) HRE.out)⟩)
 clear HP1 HP2 HP3 HRD HRE HK HK2 HK3 HW HS HB HG HPG HIA
 have hwz : wrap64 ((zy : Int) - zx) = (zy : Int) - zx:=by unfold wrap64; omega
 have HWZ:=Jh hwz
 clear hwz
 cases fx <;> cases fy <;> (go_wp2; first | go_ret | go_ret2; refine ⟨?_,HF.out⟩; first | rfl | (go_num) | skip)
theorem shiftR_c {w : World} {p q : Nat} {L M : IL} (h1 : AxRd w p L) (h2 : AxRd w q M) (hpq : p = q → L = M) (hL : L.Ok) (hM : M.Ok) (t : Tr) (A : Option Addr) (c : Nat) (hd : t.d.ok) (hs : SlAt w w.heap.size A c t.l) (hz : t.size ≤ 1048576) (x y : Cl) (hx : x.row.ok ∧ x.col.ok) (hy : y.row.ok ∧ y.col.ok) :
 Calls Tryz.prog 24 #[nodeV t.d A t.l.length c,.agg x.vals.toArray,.agg y.vals.toArray,.pointer (some ⟨p,0,none⟩),.pointer (some ⟨q,0,none⟩)] w (ShiftPostR p q L M w (shiftT L.alive M.alive x y t)):=by
 obtain ⟨g,hg⟩ : ∃ g,g = w.heap.size:=⟨_,rfl⟩
 obtain ⟨n,hn⟩ : ∃ n,n = t.l.length:=⟨_,rfl⟩
 obtain ⟨N,hN⟩ : ∃ N,N = nodeA t.d A t.l.length c:=⟨_,rfl⟩
 obtain ⟨W,hW⟩ : ∃ W,W = (((((w.alloc (.cells N 54)).alloc (.cells x.vals.toArray 43)).alloc (.cells y.vals.toArray 43)).alloc (.cells #[.pointer (some ⟨p,0,none⟩)] 62)).alloc (.cells #[.pointer (some ⟨q,0,none⟩)] 62)).alloc (.cells (nodeA zD none 0 0) 54):=⟨_,rfl⟩
 have hWs : W.heap.size = g + 6:=by rw [hW,hg]; simp
 have hbW : Below w.heap.size w W:=by
  rw [hW]
  exact ((((((Below.refl _ w).alloc (Nat.le_refl _) _).alloc (by simp <;> omega) _).alloc (by simp <;> omega) _).alloc (by simp <;> omega) _).alloc (by simp <;> omega) _).alloc (by simp <;> omega) _
 have hk0 : W.heap[g]? = some (.cells N 54) ∧ W.heap[g + 1]? = some (.cells x.vals.toArray 43) ∧ W.heap[g + 2]? = some (.cells y.vals.toArray 43) ∧ W.heap[g + 3]? = some (.cells #[.pointer (some ⟨p,0,none⟩)] 62) ∧ W.heap[g + 4]? = some (.cells #[.pointer (some ⟨q,0,none⟩)] 62) ∧ W.heap[g + 5]? = some (.cells (nodeA zD none 0 0) 54):=by
  rw [hW,hg]
  refine ⟨?_,?_,?_,?_,?_,?_⟩ <;> (simp only [heapAllocIf,World.size_alloc]; repeat (first | rw [if_pos trivial] | rw [if_pos (by omega)] | rw [if_neg (by omega)]))
 obtain ⟨hk0,hk1,hk2,hk3,hk4,hk5⟩:=hk0
 have hNs : N.size = 22:=by rw [hN]; rfl
 have hpl:=h1.lt
 have hql:=h2.lt
 obtain ⟨csp,hcp,hcsp⟩:=(AxW.short (.inl h1))
 obtain ⟨csq,hcq,hcsq⟩:=(AxW.short (.inl h2))
 have HWAY1:=Jh (wayR_c (h1.below hbW) hL x.row y.row hx.1 hy.1)
 have hB1 : ∀ w1,AxRd w1 p L ∧ Below W.heap.size W w1 → ∀ o,AxRd (w1.alloc o) q M ∧ SlAt (w1.alloc o) (w1.alloc o).heap.size A c t.l ∧ KeepS w (w1.alloc o):=fun w1 hr o => by
  have hal : Below w1.heap.size w1 (w1.alloc o):=(Below.refl _ w1).alloc (Nat.le_refl _) _
  have hpW : W.heap[p]? = some (.cells csp 129):=(hbW.block p hpl).trans hcp
  refine ⟨((h2.below hbW).below hr.2).below hal,?_,?_⟩
  · refine ((((hs.below hbW).more hbW.size).below hr.2).below (hal.mono hr.2.size)).more ?_
    have:=hr.2.size; rw [World.size_alloc]; omega
  · exact (KeepS.of hbW).trans ((KeepS.of hr.2).trans (KeepS.of hal))
 have hHX : ∀ w1,Below W.heap.size W w1 → ∀ o,(w1.alloc o).heap[g]? = some (.cells N 54) ∧ (w1.alloc o).heap[g + 1]? = some (.cells x.vals.toArray 43) ∧ (w1.alloc o).heap[g + 2]? = some (.cells y.vals.toArray 43) ∧ (w1.alloc o).heap[g + 3]? = some (.cells #[.pointer (some ⟨p,0,none⟩)] 62) ∧ (w1.alloc o).heap[g + 4]? = some (.cells #[.pointer (some ⟨q,0,none⟩)] 62) ∧ (w1.alloc o).heap[g + 5]? = some (.cells (nodeA zD none 0 0) 54):=fun w1 hk o => by
  have hh : ∀ k,k < W.heap.size → k ≠ p → (w1.alloc o).heap[k]? = W.heap[k]?:=fun k h1 h2 => (heapOld _ _ _ (Nat.lt_of_lt_of_le h1 hk.size)).trans (hk.block k h1)
  exact ⟨(hh _ (by omega) (by omega)).trans hk0,(hh _ (by omega) (by omega)).trans hk1,(hh _ (by omega) (by omega)).trans hk2,(hh _ (by omega) (by omega)).trans hk3,(hh _ (by omega) (by omega)).trans hk4,(hh _ (by omega) (by omega)).trans hk5⟩
 have c8 : W.cell? ⟨g + 3,0,none⟩ = some (.pointer (some ⟨p,0,none⟩)):=cell_of_row _ _ 0 _ _ _ hk3
 have HRX:=Jh (range_row4 hk1).1
 have HRY:=Jh (range_row4 hk2).1
 have HIL:=Jh (show ∀ a b : Value,(Tryz.prog.info? 41).map (·.size) = some [a,b].length from fun _ _ => infIk)
 have hgp : p < g:=by rw [hg]; exact hpl
 have hgq : q < g:=by rw [hg]; exact hql
 obtain ⟨zr,hzr⟩ : ∃ z,z = wayZ L.alive x.row y.row:=⟨_,rfl⟩
 obtain ⟨zc,hzc⟩ : ∃ z,z = wayZ M.alive x.col y.col:=⟨_,rfl⟩
 obtain ⟨fr,hfr⟩ : ∃ f,f = (wayI L.alive x.row y.row).isSome:=⟨_,rfl⟩
 obtain ⟨fc,hfc⟩ : ∃ f,f = (wayI M.alive x.col y.col).isSome:=⟨_,rfl⟩
 have HWAY2:=Jh (fun (wx : World) (h : AxRd wx q M) => wayR_c h hM x.col y.col hx.2 hy.2)
 rw [← hzr,← hfr] at HWAY1
 rw [← hzc,← hfc] at HWAY2
 have HB1:=Jh hB1
 have HHX:=Jh hHX
 have HW:=Jh hW
 have HG:=Jh hg
 have HN:=Jh hN
 have HNS:=Jh hNs
 have HZ:=Jh hz
 have HD:=Jh hd
 have HLM:=Jh (And.intro hL hM)
 have HPQ:=Jh (And.intro hgp hgq)
 have HZR:=Jh (And.intro hzr (And.intro hzc (And.intro hfr hfc)))
 have HWS:=Jh hWs
 have HLN:=Jh hn
 have HPP:=Jh hpq
 rw [nodeV,← hN]
 clear hk0 hk1 hk2 hk3 hk4 hk5 hNs hpl hql hcp hcq hcsp hcsq h1 h2 hpq hL hM hd hs hz hx hy hg hn hN hW hWs hbW hB1 hHX hgp hgq hzr hzc hfr hfc
 obtain ⟨⟨xra,xrn⟩,⟨xca,xcn⟩⟩:=x
 obtain ⟨⟨yra,yrn⟩,⟨yca,ycn⟩⟩:=y
 dsimp only [Cl.vals] at *
 go_enter Tryz.func24,Tryz.ntmps24
 go_upto_region 1 with (first | (refine wpList_nodeVar rfl rfl (w.heap.size + 5) (by simp) ?_) | fail)
 have hWr:=HW.out
 change Code.wp _ _ _ _ ((((((w.alloc (.cells N 54)).alloc (.cells #[.int .i64 xra,.int .i64 xrn,.int .i64 xca,.int .i64 xcn] 43)).alloc (.cells #[.int .i64 yra,.int .i64 yrn,.int .i64 yca,.int .i64 ycn] 43)).alloc (.cells #[.pointer (some ⟨p,0,none⟩)] 62)).alloc (.cells #[.pointer (some ⟨q,0,none⟩)] 62)).alloc (.cells (nodeA zD none 0 0) 54))
 rw [← hWr,← HG.out]
 clear hWr
 go_upto_region 2 with (first | (refine wpList_mid rfl 41 _ rfl (g + 1) 0 rfl [.int .i64 xra,.int .i64 xrn] _ HRX.out ikUnd rfl (HIL.out _ _) ?_) | (refine wpList_mid rfl 41 _ rfl (g + 2) 0 rfl [.int .i64 yra,.int .i64 yrn] _ HRY.out ikUnd rfl (HIL.out _ _) ?_) | (go_at_call 57; refine HWAY1.out.mono ?_; rintro e w1 ⟨rfl,hRD⟩; have HRD:=Jh hRD; clear hRD))
 obtain ⟨w2,hw2⟩ : ∃ w2,w2 = w1.alloc (.cells #[.int .i64 zr] 3):=⟨_,rfl⟩
 obtain ⟨b1,hb1⟩ : ∃ b1,b1 = w1.heap.size:=⟨_,rfl⟩
 have hx2:=HHX.out w1 HRD.out.2 (.cells #[.int .i64 zr] 3)
 have hy2:=HB1.out w1 HRD.out (.cells #[.int .i64 zr] 3)
 have hd2 : w2.heap[b1]? = some (.cells #[.int .i64 zr] 3):=by rw [hw2,hb1]; exact heap_alloc_new _ _
 have hp2 : AxRd w2 p L:=by rw [hw2]; exact HRD.out.1.below ((Below.refl _ w1).alloc (Nat.le_refl _) _)
 have hb1g : g + 6 ≤ b1 ∧ b1 < w2.heap.size:=by rw [hb1,hw2,World.size_alloc,← HWS.out]; exact ⟨HRD.out.2.size,by omega⟩
 change Code.wp _ _ _ _ (w1.alloc (.cells #[.int .i64 zr] 3))
 rw [← hw2] at hx2 hy2 ⊢
 rw [← hb1]
 obtain ⟨i0,i1,i2,i3,i4,i5⟩:=hx2
 have HWAY3:=Jh (HWAY2.out w2 hy2.1)
 have c9 : w2.cell? ⟨g + 4,0,none⟩ = some (.pointer (some ⟨q,0,none⟩)):=cell_of_row _ _ 0 _ _ _ i4
 have HRX2:=Jh (range_row4 i1).2
 have HRY2:=Jh (range_row4 i2).2
 have HI0:=Jh (And.intro i0 (And.intro i3 (And.intro i4 i5)))
 have HY2:=Jh hy2
 have HD2:=Jh (And.intro hd2 (And.intro hp2 hb1g))
 clear hw2 hb1 hy2 hd2 hp2 hb1g i0 i1 i2 i3 i4 i5 c8 HRD HWAY1 HWAY2 HB1 HHX HRX HRY HW
 go_upto_region 3 with (first | (refine wpList_mid rfl 41 _ rfl (g + 1) 2 rfl [.int .i64 xca,.int .i64 xcn] _ HRX2.out ikUnd rfl (HIL.out _ _) ?_) | (refine wpList_mid rfl 41 _ rfl (g + 2) 2 rfl [.int .i64 yca,.int .i64 ycn] _ HRY2.out ikUnd rfl (HIL.out _ _) ?_) | (go_at_call 57; refine HWAY3.out.mono ?_; rintro e w3 ⟨rfl,hRD⟩; have HRD:=Jh hRD; clear hRD))
 obtain ⟨w4,hw4⟩ : ∃ w4,w4 = w3.alloc (.cells #[.int .i64 zc] 3):=⟨_,rfl⟩
 obtain ⟨b2,hb2⟩ : ∃ b2,b2 = w3.heap.size:=⟨_,rfl⟩
 change Code.wp _ _ _ _ (w3.alloc (.cells #[.int .i64 zc] 3))
 rw [← hw4,← hb2]
 have HF4 : Hid (w4.heap[g]? = some (.cells N 54) ∧ w4.heap[g + 3]? = some (.cells #[.pointer (some ⟨p,0,none⟩)] 62) ∧ w4.heap[g + 4]? = some (.cells #[.pointer (some ⟨q,0,none⟩)] 62) ∧ w4.heap[g + 5]? = some (.cells (nodeA zD none 0 0) 54) ∧ w4.heap[b1]? = some (.cells #[.int .i64 zr] 3) ∧ w4.heap[b2]? = some (.cells #[.int .i64 zc] 3) ∧ AxRd w4 p L ∧ AxRd w4 q M ∧ SlAt w4 w4.heap.size A c t.l ∧ KeepS w w4):=Jh (by
  obtain ⟨hq3,hk3⟩:=HRD.out
  obtain ⟨hax,hsl,hkq⟩:=HY2.out
  obtain ⟨hd2,hp2,hb1g,hb1l⟩:=HD2.out
  obtain ⟨i0,i3,i4,i5⟩:=HI0.out
  obtain ⟨hgp,hgq⟩:=HPQ.out
  have hal : Below w3.heap.size w3 w4:=by rw [hw4]; exact (Below.refl _ w3).alloc (Nat.le_refl _) _
  have hh : ∀ k,k < w2.heap.size → k ≠ q → w4.heap[k]? = w2.heap[k]?:=fun k h1 h2 => (hal.block k (Nat.lt_of_lt_of_le h1 hk3.size)).trans (hk3.block k h1)
  obtain ⟨csq,hcq,hcsq⟩:=(AxW.short (.inl hax))
  have hlt : ∀ {k : Nat} {o : Obj},w2.heap[k]? = some o → k < w2.heap.size:=fun h => (Jg h).1
  refine ⟨(hh _ (hlt i0) (by omega)).trans i0,(hh _ (hlt i3) (by omega)).trans i3,(hh _ (hlt i4) (by omega)).trans i4,(hh _ (hlt i5) (by omega)).trans i5,(hh _ hb1l (by omega)).trans hd2,by rw [hw4,hb2]; exact heap_alloc_new _ _,?_,hq3.below hal,?_,hkq.trans ((KeepS.of hk3).trans (KeepS.of hal))⟩
  · exact (hp2.below hk3).below hal
  · refine ((hsl.below hk3).below (hal.mono hk3.size)).more ?_
    exact Nat.le_trans hk3.size hal.size)
 clear hw4 hb2 HRD HY2 HD2 HI0 HWAY3 HRX2 HRY2 HPP c9
 have HZD : Hid ((nodeA zD none 0 0).size = 22):=Jh rfl
 by_cases hbad : fr = false ∨ fc = false
 · -- it stays
   have hsh : shiftT L.alive M.alive ⟨⟨xra,xrn⟩,⟨xca,xcn⟩⟩ ⟨⟨yra,yrn⟩,⟨yca,ycn⟩⟩ t = t:=by
    refine shiftT_no ?_ t
    obtain ⟨-,-,h3,h4⟩:=HZR.out
    rcases hbad with h | h
    · rw [h] at h3; exact .inl (Option.not_isSome_iff_eq_none.1 (by rw [← h3]; decide))
    · rw [h] at h4; exact .inr (Option.not_isSome_iff_eq_none.1 (by rw [← h4]; decide))
   have HSH:=Jh hsh
   have HM:=Jh (show Calls Tryz.prog 58 #[.agg N,.nilFunc] w4 (CopyPost w4 t) from by
    obtain ⟨-,-,-,-,-,-,-,-,hsl,-⟩:=HF4.out
    have:=mapNil_c t w4 A c HD.out hsl HZ.out
    rwa [nodeV,← HN.out] at this)
   have hpost : ∀ (w5 : World) (A5 : Option Addr) (c5 : Nat) (ks : List AT),ks.map AT.tr = t.l → FreshKids w5 w4.heap.size A5 c5 ks → Below w4.heap.size w4 w5 → ShiftPostR p q L M w t (.returned (.agg (nodeA t.d A5 t.l.length c5))) (w5.setRow (g + 5) (nodeA t.d A5 t.l.length c5)):=by
    intro w5 A5 c5 ks hk hf hb
    obtain ⟨i0,i3,i4,i5,-,-,hp4,hq4,-,hkq⟩:=HF4.out
    have i5' : w5.heap[g + 5]? = some (.cells (nodeA zD none 0 0) 54):=(hb.block _ (Jg i5).1).trans i5
    have hka : KeepA (g + 5) w5 (w5.setRow (g + 5) (nodeA t.d A5 t.l.length c5)):=⟨rfl,rfl,rfl,by simp,fun k _ hk => setRow_other _ _ _ _ hk⟩
    refine ⟨A5,c5,rfl,HD.out,?_,(hp4.below hb).keepN i5' (by decide) hka,(hq4.below hb).keepN i5' (by decide) hka,?_⟩
    · rw [← hk]
      exact (FreshKids.slG (hf.row _ (Jg i5).1 _)).keep (fun b _ h => ⟨Nat.le_trans hkq.size h.1,h.2⟩) (fun _ _ _ _ _ => rfl)
    · have h5:=hkq.trans (KeepS.of hb)
      refine ⟨h5.os,h5.tape,h5.output,by simpa using h5.size,fun k h1 => (setRow_other _ _ _ _ (by have:=HG.out; omega)).trans (h5.block k h1)⟩
   have HPOST:=Jh hpost
   clear hsh hpost
   have hnode : ∀ A5 c5,(nodeA t.d A5 t.l.length c5).size = 22 ∧ (nodeA t.d A5 t.l.length c5).all (·.oneCell') = true:=fun _ _ => ⟨rfl,node_one _ _ _ _⟩
   have HNODE:=Jh hnode
   clear hnode
   have hfin : Code.wp Tryz.prog (Code.region 99 #[] false) (fun _ _ _ => True) ⟨#[],[]⟩ w4 → True:=fun _ => trivial
   clear hfin
   cases fr <;> cases fc <;> first
    | (exfalso; simp at hbad; done)
    | (clear hbad
       go_wp2_with (first | (refine wpList_row rfl 54 _ rfl g rfl 54 N (0,0) _ HF4.out.1 undN rfl (infS HNS.out) ?_) | (go_at_call 58; refine HM.out.mono ?_; rintro e w5 ⟨A5,c5,ks,rfl,hk5,hf5,hb5⟩; have HK5:=Jh (And.intro hk5 (And.intro hf5 hb5)); clear hk5 hf5 hb5; obtain ⟨N5,hN5⟩ : ∃ N5,N5 = nodeA t.d A5 t.l.length c5:=⟨_,rfl⟩; rw [nodeV,← hN5]; have HN5:=Jh hN5; have HS5 : Hid (N5.size = 22 ∧ N5.all (·.oneCell') = true):=Jh (by rw [hN5]; exact HNODE.out _ _); have HT5 : Hid (w5.heap[g + 5]? = some (.cells (nodeA zD none 0 0) 54)):=Jh ((HK5.out.2.2.block _ (Jg HF4.out.2.2.2.1).1).trans HF4.out.2.2.2.1); clear hN5) | (refine wpList_store_row rfl 54 _ _ rfl (g + 5) N5 rfl rfl 54 (nodeA zD none 0 0) HT5.out (infS HS5.out.1) HS5.out.1.symm HS5.out.2 ?_) | fail)
       refine bodyPost_ret (v:=.agg N5) (results_cell_row rfl _ _ (g + 5) 54 N5 (0,0) _ rfl (setRow_heap _ _ _ _ _ _ HT5.out) undN rfl (infS HS5.out.1)) rfl ?_
       rw [HN5.out,HSH.out]
       exact HPOST.out w5 A5 c5 ks HK5.out.1 HK5.out.2.1 HK5.out.2.2)
 · obtain rfl : fr = true:=by cases fr <;> simp_all
   obtain rfl : fc = true:=by cases fc <;> simp_all
   clear hbad
   have hsh : shiftT L.alive M.alive ⟨⟨xra,xrn⟩,⟨xca,xcn⟩⟩ ⟨⟨yra,yrn⟩,⟨yca,ycn⟩⟩ t = mapT (goneF ⟨L.alive,M.alive,zr,zc⟩) t:=by
    obtain ⟨h1,h2,h3,h4⟩:=HZR.out
    rw [mapT_gone,shiftT_isSome h3.symm h4.symm,h1,h2]
   have HSH:=Jh hsh
   go_upto_region 6 with (fail)
   obtain ⟨FV,hFV⟩ : ∃ FV,FV = Value.func (.func 59) #[] #[.pointer (some ⟨g + 3,0,none⟩),.pointer (some ⟨b1,0,none⟩),.pointer (some ⟨g + 4,0,none⟩),.pointer (some ⟨b2,0,none⟩)]:=⟨_,rfl⟩
   obtain ⟨w5,hw5⟩ : ∃ w5,w5 = w4.alloc (.cells #[FV] 137):=⟨_,rfl⟩
   obtain ⟨b5,hb5⟩ : ∃ b5,b5 = w4.heap.size:=⟨_,rfl⟩
   change Code.wp _ _ _ _ (w4.alloc (.cells #[Value.func (.func 59) #[] #[.pointer (some ⟨g + 3,0,none⟩),.pointer (some ⟨b1,0,none⟩),.pointer (some ⟨g + 4,0,none⟩),.pointer (some ⟨b2,0,none⟩)]] 137))
   rw [← hFV,← hw5,← hb5]
   have hal : Below w4.heap.size w4 w5:=by rw [hw5]; exact (Below.refl _ w4).alloc (Nat.le_refl _) _
   have hG5 : w5.heap[b5]? = some (.cells #[FV] 137):=by rw [hw5,hb5]; exact heap_alloc_new _ _
   have hh : ∀ {k : Nat} {o : Obj},w4.heap[k]? = some o → w5.heap[k]? = some o:=fun h => (hal.block _ (Jg h).1).trans h
   have HF5 : Hid (w5.heap[g]? = some (.cells N 54) ∧ w5.heap[g + 5]? = some (.cells (nodeA zD none 0 0) 54) ∧ AxRd w5 p L ∧ AxRd w5 q M ∧ SlAt w5 w5.heap.size A c t.l ∧ KeepS w w5):=Jh (by
    obtain ⟨i0,i3,i4,i5,-,-,hp4,hq4,hsl,hkq⟩:=HF4.out
    exact ⟨hh i0,hh i5,hp4.below hal,hq4.below hal,(hsl.below hal).more hal.size,hkq.trans (KeepS.of hal)⟩)
   have HM:=Jh (show Calls Tryz.prog 58 #[.agg N,.func (.func 61) #[] #[.pointer (some ⟨b5,0,none⟩)]] w5 (MapPost w5.heap.size (mapT (goneF ⟨L.alive,M.alive,zr,zc⟩) t) (Below w5.heap.size w5)) from by
    obtain ⟨i0,i3,i4,i5,j1,j2,hp4,hq4,hsl,hkq⟩:=HF4.out
    have hJ : GoJ w5 (g + 3) b1 (g + 4) b2 p q L M zr zc:=⟨hh i3,hh j1,hh i4,hh j2,hp4.below hal,hq4.below hal⟩
    obtain ⟨hL,hM⟩:=HLM.out
    have hz1:=wayZ_le hL ⟨xra,xrn⟩ ⟨yra,yrn⟩
    have hz2:=wayZ_le hM ⟨xca,xcn⟩ ⟨yca,ycn⟩
    rw [← HZR.out.1] at hz1
    rw [← HZR.out.2.1] at hz2
    have:=mapF_c t w5 A c HD.out HF5.out.2.2.2.2.1 HZ.out 61 #[.pointer (some ⟨b5,0,none⟩)] (goneF ⟨L.alive,M.alive,zr,zc⟩) (fun _ w => Below w5.heap.size w5 w) (fun _ _ _ h h' => h.trans h') (shiftF_c hJ (by rw [hG5,hFV]) hL hM hz1 hz2) (fun _ _ => by kernel_rfl) (Below.refl _ _)
    rwa [nodeV,← HN.out] at this)
   clear hw5 hb5 hal hG5 hh hsh HF4 hFV
   have HNODE:=Jh (show ∀ (r : Tr) A5 c5,(nodeA r.d A5 r.l.length c5).size = 22 ∧ (nodeA r.d A5 r.l.length c5).all (·.oneCell') = true from fun _ _ _ => ⟨rfl,node_one _ _ _ _⟩)
   generalize mapT (goneF ⟨L.alive,M.alive,zr,zc⟩) t = r at HM HSH
   have hpost : ∀ (w6 : World) (A5 : Option Addr) (c5 : Nat),r.d.ok → SlG w6 (fun b _ => w5.heap.size ≤ b ∧ b < w6.heap.size) A5 c5 r.l → Below w5.heap.size w5 w6 → ShiftPostR p q L M w r (.returned (.agg (nodeA r.d A5 r.l.length c5))) (w6.setRow (g + 5) (nodeA r.d A5 r.l.length c5)):=by
    intro w6 A5 c5 hd hs hb
    obtain ⟨-,i5,hp5,hq5,-,hkq⟩:=HF5.out
    have i5' : w6.heap[g + 5]? = some (.cells (nodeA zD none 0 0) 54):=(hb.block _ (Jg i5).1).trans i5
    have i5l:=(Jg i5).1
    have hka : KeepA (g + 5) w6 (w6.setRow (g + 5) (nodeA r.d A5 r.l.length c5)):=⟨rfl,rfl,rfl,by simp,fun k _ hk => setRow_other _ _ _ _ hk⟩
    refine ⟨A5,c5,rfl,hd,?_,(hp5.below hb).keepN i5' (by decide) hka,(hq5.below hb).keepN i5' (by decide) hka,?_⟩
    · exact hs.keep (fun b _ h => ⟨Nat.le_trans hkq.size h.1,by simpa using h.2⟩) (fun b o h j _ => World.cell?_of_block (a:=⟨b,o + j,none⟩) (setRow_other _ _ _ _ (by have h' : w5.heap.size ≤ b:=h.1; show b ≠ g + 5; omega)))
    · have h5:=hkq.trans (KeepS.of hb)
      refine ⟨h5.os,h5.tape,h5.output,by simpa using h5.size,fun k h1 => (setRow_other _ _ _ _ (by have:=HG.out; omega)).trans (h5.block k h1)⟩
   have HPOST:=Jh hpost
   clear hpost
   go_wp2_with (first | (refine wpList_row rfl 54 _ rfl g rfl 54 N (0,0) _ HF5.out.1 undN rfl (infS HNS.out) ?_) | (go_at_call 58; refine HM.out.mono ?_; rintro e w6 ⟨A5,c5,rfl,hk5,hf5,hb5⟩; have HK5:=Jh (And.intro hk5 (And.intro hf5 hb5)); clear hk5 hf5 hb5; obtain ⟨N5,hN5⟩ : ∃ N5,N5 = nodeA r.d A5 r.l.length c5:=⟨_,rfl⟩; rw [nodeV,← hN5]; have HN5:=Jh hN5; have HS5 : Hid (N5.size = 22 ∧ N5.all (·.oneCell') = true):=Jh (by rw [hN5]; exact HNODE.out _ _ _); have HT5 : Hid (w6.heap[g + 5]? = some (.cells (nodeA zD none 0 0) 54)):=Jh ((HK5.out.2.2.block _ (Jg HF5.out.2.1).1).trans HF5.out.2.1); clear hN5) | (refine wpList_store_row rfl 54 _ _ rfl (g + 5) N5 rfl rfl 54 (nodeA zD none 0 0) HT5.out (infS HS5.out.1) HS5.out.1.symm HS5.out.2 ?_) | fail)
   refine bodyPost_ret (v:=.agg N5) (results_cell_row rfl _ _ (g + 5) 54 N5 (0,0) _ rfl (setRow_heap _ _ _ _ _ _ HT5.out) undN rfl (infS HS5.out.1)) rfl ?_
   rw [HN5.out,HSH.out]
   exact HPOST.out w6 A5 c5 HK5.out.1 HK5.out.2.1 HK5.out.2.2
end Go.Proofs.YtjobojfaocihfaaGreat
namespace Go.Proofs.YtjobojfaocihfaaGreat
set_option linter.unusedSimpArgs false
set_option linter.unusedVariables false
open Go Go.RowKit Go.Shelf Go.Maps
def editZ : Array Value:=(.int .i64 0 :: .int .i64 0 :: .int .i64 0 :: .int .i64 0 :: .int .i64 0 :: .int .i64 0 :: .int .i64 0 :: .int .i64 0 :: .int .i64 0 :: .string ⟨#[]⟩ :: .bool false :: .int .i64 0 :: ((nodeA zD none 0 0).toList ++ [.int .i64 0,.int .i64 0,.int .i64 0,.int .i64 0,.string ⟨#[]⟩,.slice none 0 0])).toArray
theorem undE : Tryz.prog.underlying 59 = some (.struct (Tryz.prog.fieldsOf 59)):=by kernel_rfl
theorem one_E : editZ.all (·.oneCell') = true:=by kernel_rfl
theorem wpList_editVar {ops : Array Oper} {rest : List Oper} {o : Oper} {a : Act} {w : World} {Q : Exit → Act → World → Prop} (hg : o.guard = none) (ho : o.op = .alloc 59) (g : Nat) (hz : w.heap.size = g)
 (h : wpList Tryz.prog ops Q rest (a.put o.dst (.pointer (some ⟨g,0,none⟩))) (w.alloc (.cells editZ 59))) : wpList Tryz.prog ops Q (o :: rest) a w:=by
 subst hz
 refine Great.wpList_allocTo hg o.dst rfl _ _ ?_ h
 unfold execOp
 simp only [ho]
 kernel_rfl
end Go.Proofs.YtjobojfaocihfaaGreat
