/- (*reader).node: what comes behind its switch. (*reader).node: its contract. -/
import Derived.Test.YtelombedjkbckaaGreatDoorDgDh
import Derived.Test.YtelombedjkbckaaGreatDoorZnDnDk
import Derived.Test.YtelombedjkbckaaGreatDoorOvNoGtCu
import Derived.Great.CaseRows
import Derived.Deep.AppendLies
import Derived.LoopTactic
namespace Go.Proofs.YtelombedjkbckaaGreatDoor
set_option maxRecDepth 100000
set_option maxHeartbeats 8000000
open Go.RowKit Go.Shelf
theorem zeroNd : ((Tryz.prog.info? 41).bind (·.zero)).isSome = true:=by kernel_rfl
theorem step_oneNode {ops : Array Oper} {o : Oper} {a : Act} {w : World} {K : Act → World → Prop} {Q : Exit → Act → World → Prop} {E : Prop} (hg : o.guard = none) (i : Nat) (ho : o.op = .buildSlice 39 1 #[(0, .tmp i)]) (N : Array Value) (hev : a.eval (.tmp i) = .agg N) (hn : N.size = 22)
 (h : K (a.put o.dst (.slice (some ⟨w.heap.size,0,none⟩) 1 1)) (w.alloc (.cells N 41))) : if Region.wanted o (yielded ops a.tmps) = true then Oper.wp Tryz.prog o a w K Q else E:=by
 have hw : Region.wanted o (yielded ops a.tmps) = true:=by simp [Region.wanted,hg]
 rw [if_pos hw]
 have hsz:=infN
 have hz:=zeroNd
 cases hie : Tryz.prog.info? 41 with
 | none => rw [hie] at hsz; cases hsz
 | some ie =>
  rw [hie] at hsz hz
  simp only [Option.map_some,Option.some.injEq,Option.bind_some] at hsz hz
  obtain ⟨z,hzz⟩:=Option.isSome_iff_exists.1 hz
  refine wp_buildSlice 39 41 1 #[(0,.tmp i)] ho N ie z undNs hie hzz (by rw [hsz]; decide) (by rw [hsz]; decide) ?_ h
  have e1 : ((#[(0,Operand.tmp i)] : Array (Nat × Operand)).map fun (i,x) => (i,a.eval x)).toList = (([Value.agg N]).zipIdx 0).map fun x => (x.2,x.1):=by simp [hev]
  have e2 : ([Value.agg N].flatMap fun v => v.cells.toList).toArray = N:=by simp [Value.cells]
  rw [e1,hsz]
  have:=Great.fill_whole (s:=22) (by decide) [Value.agg N] ((Array.range (1 * 22)).map (z.cells[· % z.cells.size]!)) (fun v hv => by simp only [List.mem_singleton] at hv; subst hv; exact hn) (by simp)
  rw [e2] at this
  exact this
theorem owns_keep {w w' : World} {base : Nat} {e : TypeId} {size : Nat} {v : Value} {n : Nat} {xs : List Value} (h : w.ownsRow base e size v n xs) (hk : ∀ k,base ≤ k → k < w.heap.size → w'.heap[k]? = w.heap[k]?) : w'.ownsRow base e size v n xs:=by
 refine ⟨h.1,?_⟩
 rcases h.2 with h2 | ⟨g,cap,cur,h1,h2,h3,h4⟩
 · exact .inl h2
 · exact .inr ⟨g,cap,cur,h1,h2,(hk g h2 (Jg h3).1).trans h3,h4⟩
theorem owns_ne {w : World} {base : Nat} {e : TypeId} {size : Nat} {v : Value} {n : Nat} {xs : List Value} (h : w.ownsRow base e size v n xs) {k : Nat} (hk : k < base) : some k ≠ v.ownBlock:=by
 rcases h.2 with ⟨rfl,_⟩ | ⟨g,cap,cur,rfl,h2,h3,h4⟩
 · intro e; cases e
 · intro e; simp only [Value.ownBlock,Option.some.injEq] at e; omega
theorem owns_ne2 {w : World} {base : Nat} {e : TypeId} {size : Nat} {v : Value} {n : Nat} {xs : List Value} (h : w.ownsRow base e size v n xs) {k : Nat} (hk : w.heap.size ≤ k) : some k ≠ v.ownBlock:=by
 rcases h.2 with ⟨rfl,_⟩ | ⟨g,cap,cur,rfl,h2,h3,h4⟩
 · intro e; cases e
 · intro e; simp only [Value.ownBlock,Option.some.injEq] at e; have:=(Jg h3).1; omega
theorem keep_alloc {w : World} {p : Addr} {v : Value} (h : w.cell? p = some v) (o : Obj) : (w.alloc o).cell? p = some v :=
 (World.cell?_of_block (heapOld _ _ _ (World.block_lt_of_cell? w _ h))).trans h
theorem keep_grown {w w' : World} {r : Option Nat} {p : Addr} {v : Value} (h : w.cell? p = some v) (hg : w.grownBy w' r) (hne : some p.block ≠ r) : w'.cell? p = some v :=
 (World.cell?_of_block (hg.block _ (World.block_lt_of_cell? w _ h) hne)).trans h
def Zone (h : Nat) (v : Value) (w : World) (k : Nat) : Prop:=h ≤ k ∧ k < w.heap.size ∧ some k ≠ v.ownBlock
def NodePost (b : Nat) (w : World) (x : Tr × RS) (e : Ending) (w' : World) : Prop :=
 ∃ A c,e = .returned (nodeV x.1.d A x.1.l.length c) ∧ x.1.d.ok ∧ SlZ w' (fun k => w.heap.size ≤ k ∧ k < w'.heap.size) A c x.1.l ∧ RdTo b x.2 w w'
def NodeC (f : Nat) : Prop:=∀ (b : Nat) (r : RS) (w : World) (dep : Int),dep = 33 - (f : Int) → RdAt b r w → r.bad = false → r.nodes ≤ 256 → r.rest.size ≤ 1048576 → 3 ≤ b → ErrC w →
 Calls Tryz.prog 107 #[.pointer (some ⟨b,0,none⟩),.int .i64 dep] w (NodePost b w (RS.node f r))
def TRel (f b : Nat) (w : World) (d : ND) (n : Nat) (q0 : RS) (gk : Nat) (v8 : Value) (wr : World) : Prop :=
 ∃ (i : Nat) (done : List Tr) (r1 : RS) (A : Option Addr) (c : Nat) (xs : List Value),v8 = .int .i64 (i : Int) ∧ gk = n - i ∧ i ≤ n ∧ done.length = i ∧ i ≤ r1.nodes ∧ r1.Cap ∧ r1.rest.size ≤ 1048576 ∧
  (done ++ (RS.kids (RS.node f) (n - i) r1).1,(RS.kids (RS.node f) (n - i) r1).2) = RS.kids (RS.node f) n q0 ∧ RdAt b r1 wr ∧ w.grownBy wr (some b) ∧ wr.heap[w.heap.size]? = some (.cells zA 41) ∧
  wr.heap[w.heap.size + 1]? = some (.cells (nodeA d A i c) 41) ∧ wr.ownsRow (w.heap.size + 2) 41 22 (.slice A i c) i xs ∧ ZRow wr (Zone (w.heap.size + 2) (.slice A i c) wr) done xs
theorem TRel.step {f b : Nat} {w : World} {d : ND} {n : Nat} {q0 : RS} {i : Nat} {done : List Tr} {r1 : RS} {A : Option Addr} {c : Nat} {xs : List Value} {wr w2 w4 : World} {A2 : Option Addr} {c2 g2 cap2 : Nat} (hbl : b < w.heap.size) (hi : i < n) (hlen : done.length = i) (hnod : i ≤ r1.nodes) (hcap : r1.Cap) (hrs : r1.rest.size ≤ 1048576) (hbad : r1.bad = false)
 (hkids : (done ++ (RS.kids (RS.node f) (n - i) r1).1,(RS.kids (RS.node f) (n - i) r1).2) = RS.kids (RS.node f) n q0) (hg : w.grownBy wr (some b)) (hz : wr.heap[w.heap.size]? = some (.cells zA 41))
 (hn : wr.heap[w.heap.size + 1]? = some (.cells (nodeA d A i c) 41)) (hown : wr.ownsRow (w.heap.size + 2) 41 22 (.slice A i c) i xs) (hrow : ZRow wr (Zone (w.heap.size + 2) (.slice A i c) wr) done xs)
 (hd2 : (RS.node f r1).1.d.ok) (hs2 : SlZ w2 (fun k => wr.heap.size ≤ k ∧ k < w2.heap.size) A2 c2 (RS.node f r1).1.l) (hr2 : RdAt b (RS.node f r1).2 w2) (g2' : wr.grownBy w2 (some b))
 (hgrow : (w2.alloc (.cells (nodeA (RS.node f r1).1.d A2 (RS.node f r1).1.l.length c2) 41)).grownBy w4 (Value.slice A i c).ownBlock)
 (hown4 : w4.ownsRow (w.heap.size + 2) 41 22 (.slice (some ⟨g2,0,none⟩) (i + 1) cap2) (i + 1) (xs ++ (nodeA (RS.node f r1).1.d A2 (RS.node f r1).1.l.length c2).toList)) (hat : (Value.slice A i c).ownBlock = some g2 ∨ g2 = w2.heap.size + 1) :
 TRel f b w d n q0 (n - (i + 1)) (.int .i64 ((i : Int) + 1)) (w4.setCell ⟨w.heap.size + 1,21,none⟩ (.slice (some ⟨g2,0,none⟩) (i + 1) cap2)):=by
 have hbig : w.heap.size + 2 ≤ wr.heap.size:=(Jg hn).1
 have h2s:=g2'.size
 have h4s : w2.heap.size + 1 ≤ w4.heap.size:=by have:=hgrow.size; rwa [World.size_alloc] at this
 have hn0 : some w.heap.size ≠ (Value.slice A i c).ownBlock:=owns_ne hown (by omega)
 have hn1 : some (w.heap.size + 1) ≠ (Value.slice A i c).ownBlock:=owns_ne hown (by omega)
 have hnb : some b ≠ (Value.slice A i c).ownBlock:=owns_ne hown (by omega)
 obtain ⟨ts,hts⟩ : ∃ t,t = (RS.node f r1).1:=⟨_,rfl⟩
 have b12 : ∀ k,k < wr.heap.size → k ≠ b → w2.heap[k]? = wr.heap[k]?:=fun k hk hne => g2'.block k hk (fun e => hne (by injection e))
 have b24 : ∀ k,k < w2.heap.size → some k ≠ (Value.slice A i c).ownBlock → w4.heap[k]? = w2.heap[k]?:=fun k hk hne => (hgrow.block k (by rw [World.size_alloc]; omega) hne).trans (heapOld _ _ _ hk)
 have b45 : ∀ k,k ≠ w.heap.size + 1 → (w4.setCell ⟨w.heap.size + 1,21,none⟩ (.slice (some ⟨g2,0,none⟩) (i + 1) cap2)).heap[k]? = w4.heap[k]?:=fun k hne => Below.heap_setCell _ _ _ _ hne
 have hg2l : g2 < w4.heap.size:=(hown4.lt g2 rfl).2
 have hg2b : w.heap.size + 2 ≤ g2:=(hown4.lt g2 rfl).1
 obtain ⟨w5,hw5⟩ : ∃ w5,w5 = w4.setCell ⟨w.heap.size + 1,21,none⟩ (.slice (some ⟨g2,0,none⟩) (i + 1) cap2):=⟨_,rfl⟩
 have h5s : w5.heap.size = w4.heap.size:=by rw [hw5]; simp
 rw [← hw5] at b45 ⊢
 have hblr : b < wr.heap.size:=by omega
 have hnd:=node_nodes f r1
 have hsz:=(RS.node f r1).1.size_pos
 refine ⟨i + 1,done ++ [(RS.node f r1).1],(RS.node f r1).2,some ⟨g2,0,none⟩,cap2,xs ++ (nodeA (RS.node f r1).1.d A2 (RS.node f r1).1.l.length c2).toList,by simp,rfl,by omega,by simp [hlen],by omega,node_cap f r1 (hcap.2 hbad),Nat.le_trans (node_le f r1) hrs,?_,?_,?_,?_,?_,?_,?_⟩
 · rw [← hkids,show n - i = (n - (i + 1)) + 1 by omega,kids_succ _ _ _ hbad]
   simp
 · exact (b45 b (by omega)).trans ((b24 b (by omega) hnb).trans hr2)
 · refine ⟨?_,?_,?_,by have:=hg.size; omega,fun k hk hne => ?_⟩
   · rw [hw5]; exact hgrow.os.trans (g2'.os.trans hg.os)
   · rw [hw5]; exact hgrow.tape.trans (g2'.tape.trans hg.tape)
   · rw [hw5]; exact hgrow.output.trans (g2'.output.trans hg.output)
   · have hkb : k ≠ b:=fun e => hne (by rw [e])
     exact (b45 k (by omega)).trans ((b24 k (by omega) (owns_ne hown (by omega))).trans ((b12 k (by omega) hkb).trans (hg.block k hk hne)))
 · exact (b45 _ (by omega)).trans ((b24 _ (by omega) hn0).trans ((b12 _ (by omega) (by omega)).trans hz))
 · have h4n : w4.heap[w.heap.size + 1]? = some (.cells (nodeA d A i c) 41):=(b24 _ (by omega) hn1).trans ((b12 _ (by omega) (by omega)).trans hn)
   rw [hw5]
   exact heap_setCell_same _ _ 21 _ _ _ h4n
 · exact owns_keep hown4 (fun k h1 h2 => b45 k (by omega))
 · have hz5 : ∀ k,(w.heap.size + 2 ≤ k ∧ k < w2.heap.size ∧ some k ≠ (Value.slice A i c).ownBlock) → Zone (w.heap.size + 2) (.slice (some ⟨g2,0,none⟩) (i + 1) cap2) w5 k:=fun k ⟨h1,h2,h3⟩ => by
    refine ⟨h1,by omega,fun e => ?_⟩
    simp only [Value.ownBlock,Option.some.injEq] at e
    rcases hat with h | h
    · exact h3 (by rw [h,e])
    · omega
   refine ZRow.append (ZRow.move (fun k hk => hz5 k ⟨hk.1,by have:=hk.2.1; omega,hk.2.2⟩) (fun p hp => World.cell?_of_block ?_) hrow) (ZRow.one_ hd2 (SlZ.move hs2 (fun k hk => hz5 k ⟨by omega,hk.2,owns_ne2 hown hk.1⟩) (fun p hp => World.cell?_of_block ?_)))
   · obtain ⟨p1,p2,p3⟩:=hp
     exact (b45 _ (by omega)).trans ((b24 _ (by omega) p3).trans (b12 _ p2 (by omega)))
   · obtain ⟨p1,p2⟩:=hp
     exact (b45 _ (by omega)).trans (b24 _ p2 (owns_ne2 hown p1))
theorem TRel.done {f b : Nat} {w : World} {d : ND} {n : Nat} {q0 : RS} {i : Nat} {done : List Tr} {r1 : RS} {A : Option Addr} {c : Nat} {xs : List Value} {wr : World} (hd : d.ok) (hbl : b < w.heap.size) (hi : i ≤ n) (hlen : done.length = i) (hst : i = n ∨ r1.bad = true)
 (hkids : (done ++ (RS.kids (RS.node f) (n - i) r1).1,(RS.kids (RS.node f) (n - i) r1).2) = RS.kids (RS.node f) n q0) (hrd : RdAt b r1 wr) (hg : w.grownBy wr (some b)) (hn : wr.heap[w.heap.size + 1]? = some (.cells (nodeA d A i c) 41))
 (hown : wr.ownsRow (w.heap.size + 2) 41 22 (.slice A i c) i xs) (hrow : ZRow wr (Zone (w.heap.size + 2) (.slice A i c) wr) done xs) :
 NodePost b w (.mk d (RS.kids (RS.node f) n q0).1,(RS.kids (RS.node f) n q0).2) (.returned (.agg (nodeA d A i c))) (wr.setRow w.heap.size (nodeA d A i c)):=by
 have hk : RS.kids (RS.node f) n q0 = (done,r1):=by
  rw [← hkids]
  rcases hst with h | h
  · rw [h,Nat.sub_self,kids_zero]; simp
  · rw [kids_bad _ _ _ h]; simp
 have hsz : w.heap.size + 2 ≤ wr.heap.size:=(Jg hn).1
 rw [hk]
 subst hlen
 refine ⟨A,c,rfl,hd,?_,hrd.row (by omega) _,grown_row hg (Nat.le_refl _) _⟩
 dsimp only [Tr.l]
 have hkeep : ∀ k,w.heap.size + 2 ≤ k → (wr.setRow w.heap.size (nodeA d A done.length c)).heap[k]? = wr.heap[k]?:=fun k h => heap_setRow_other _ _ _ _ (by omega)
 have hsr : (wr.setRow w.heap.size (nodeA d A done.length c)).heap.size = wr.heap.size:=by simp
 rcases hown.2 with ⟨hv,h0⟩ | ⟨g,cap,cur,hv,hb,hgg,hnc,hcm,hcs,htk⟩
 · have : done = []:=List.length_eq_zero_iff.1 h0
   subst this
   simp only [Value.slice.injEq] at hv
   obtain ⟨-,-,rfl⟩:=hv
   exact SlZ.nil _ _ _ _ (by decide)
 · have hcell:=fun j u hu => own_cell hown hv j u hu
   simp only [Value.slice.injEq] at hv
   obtain ⟨rfl,-,rfl⟩:=hv
   have hgl:=(Jg hgg).1
   refine ⟨hnc,by unfold maxLen at hcm; omega,.inr ⟨g,0,rfl,?_⟩⟩
   refine ZRow.kids (Z:=fun k => w.heap.size ≤ k ∧ k < (wr.setRow w.heap.size (nodeA d (some ⟨g,0,none⟩) done.length c)).heap.size) ⟨by omega,by rw [hsr]; exact hgl⟩ (ZRow.move (fun k hk => ⟨by have:=hk.1; omega,by rw [hsr]; exact hk.2.1⟩) (fun p hp => World.cell?_of_block (hkeep _ hp.1)) hrow) (fun j u hu => ?_)
   rw [Nat.zero_add]
   exact (World.cell?_of_block (a:=⟨g,j,none⟩) (hkeep g hb)).trans (hcell j u hu)
theorem node_tail (f : Nat) (hf : f ≤ 31) (ih : NodeC f) (b : Nat) (q : RS) (w : World) (dep below : Int) (d : ND) (hdep : dep + 1 = 33 - (f : Int)) (hd : d.ok) (hbl : b < w.heap.size) (hb3 : 3 ≤ b) (he : ErrC w) (hw64 : i64 below) (hcap : q.nodes ≤ 256) (hrs : q.rest.size ≤ 1048576) :
 Meets38 node38C (bodyPost Tryz.prog Tryz.f107 (NodePost b w (.mk d (RS.kids (RS.node f) below.toNat (q.skip [59])).1,(RS.kids (RS.node f) below.toNat (q.skip [59])).2))) b dep d below q w:=by
 intro u2 u3 u6 u8 u9 uA uB uC uD uE uF uG uH uI uJ uK uL uM uN uO uP uQ uR uS uT uU uV uW uX uY uZ ua ub uc ud ue uf ug uh ui uj uk ul um un uo up uq ur ut uu uv uw ux uy uz UA UB UC UD UE UF UG UH UI UJ UK UL UM UN UO UP UQ UR US UT UU UV UW UX UY UZ Ua Ub Uc Ud Ue Uf Ug Uh Ui Uj Uk Ul Um Un Uo Up Uq Ur Us Ut Uu Uv Uw Ux Uy Uz VA VB VC VD VE VF VG VH VI VJ VK VL VM VN VO VP VQ VR VS VT VU VV VW VX VY VZ Va Vb Vc w1 h1 g1 k1 k2
 have HSK:=Jh (skip_c b q ⟨#[59]⟩ w1 h1)
 have G1:=Jh g1
 have K1:=Jh k1
 have K2:=Jh k2
 have HIH:=Jh ih
 have HE:=Jh he
 have HD:=Jh hd
 have hdl : dep ≤ 32:=by omega
 have hdg : 0 ≤ dep:=by omega
 have hwd : IntKind.i64.wrap (dep + 1) = dep + 1:=IntWalk.i64_in _ (by omega)
 have HDEP:=Jh hdep
 obtain ⟨n,hn⟩ : ∃ n,below.toNat = n:=⟨_,rfl⟩
 have hsn : (q.skip [59]).nodes ≤ 256:=hcap
 have hsr : (q.skip [59]).rest.size ≤ 1048576:=Nat.le_trans (skip_le [59] q) hrs
 obtain ⟨q0,hq0⟩ : ∃ q0,q.skip [59] = q0:=⟨_,rfl⟩
 have hp0 : q.skip (ByteArray.mk #[59]).data.toList = q0:=hq0
 rw [hp0] at HSK
 rw [hq0] at hsn hsr ⊢
 rw [hn]
 have HN:=Jh hn
 have HSN:=Jh hsn
 have HSR:=Jh hsr
 obtain ⟨ti,hti,hz0,hz1,hz2⟩:=info_parts infoN
 have HW64:=Jh hw64
 clear ih he hd g1 k1 k2 h1 hdep hn hsn hsr hq0 hp0 hcap hrs hw64
 dsimp only
 conv => arg 2; whnf; repeat (arg 2; whnf)
 go_wp2_with (fail)
 refine HSK.out.mono ?_
 rintro e w2 ⟨rfl,h2,g2⟩
 have H2:=Jh h2
 have G2:=Jh (grown_trans G1.out g2)
 have N1:=Jh (kept_ K1.out g2 (by omega))
 have N2:=Jh (kept_ K2.out g2 (by omega))
 clear h2 g2
 go_wp2_with (fail)
 go_loopg [8] n (fun gk v8 wr => TRel f b w d n q0 gk v8 wr)
 case atStart =>
  refine ⟨0,[],q0,none,0,[],rfl,rfl,Nat.zero_le _,rfl,Nat.zero_le _,⟨by have:=HSN.out; omega,fun _ => HSN.out⟩,HSR.out,by simp,H2.out,G2.out,N1.out,N2.out,⟨rfl,.inl ⟨rfl,rfl⟩⟩,rfl⟩
 case round =>
  obtain ⟨i,done,r1,A,c,xs,rfl,rfl,hi,hlen,hnod,hcap,hrs,hkids,hrd,hg,hz,hn,hown,hrow⟩:=hrel
  obtain ⟨c0,c1,c2,z0,z1,z2⟩:=hrd.cells
  have hi257 : i ≤ 257:=Nat.le_trans hnod hcap.1
  have HRD:=Jh hrd
  have HG:=Jh hg
  have HZ:=Jh hz
  have HNN:=Jh hn
  have HOW:=Jh hown
  have HROW:=Jh hrow
  have HKIDS:=Jh hkids
  have HCAP:=Jh hcap
  have HNOD:=Jh hnod
  have HRS:=Jh hrs
  have HLEN:=Jh hlen
  have hsz : w.heap.size + 2 ≤ wr.heap.size:=(Jg hn).1
  obtain ⟨NA,hNA⟩ : ∃ NA,NA = nodeA d A i c:=⟨_,rfl⟩
  have hNAs : NA.size = 22:=by rw [hNA]; rfl
  have hNAo : NA.all (·.oneCell') = true:=by rw [hNA]; exact all_oneCell_toArray (fun u hu => head_one d A i c u hu)
  rw [← hNA] at hn
  have HNA:=Jh hNA
  have HNB:=Jh hn
  have HNAS:=Jh hNAs
  have HNAO:=Jh hNAo
  have hiI : (i : Int) ≤ 257:=by omega
  have hiI0 : (0 : Int) ≤ (i : Int):=by omega
  have hst : (i = n ∨ r1.bad = true) ∨ (i < n ∧ r1.bad = false):=by
   cases hb : r1.bad with
   | true => exact .inl (.inr rfl)
   | false => rcases Nat.lt_or_ge i n with h | h
              · exact .inr ⟨h,rfl⟩
              · exact .inl (.inl (by omega))
  rcases hst with hst | ⟨hlt,hbad⟩
  · have HST:=Jh hst
    have hstop : (decide ((i : Int) < below) && !r1.bad) = false:=by
     rcases hst with h | h
     · have : ¬ (i : Int) < below:=by have:=HN.out; omega
       simp [this]
     · simp [h]
    cases hb : r1.bad with
    | true =>
     rw [hb] at c2
     clear hrd hg hz hn hown hrow hkids hcap hnod hrs hlen hNA hNAs hNAo hst hstop hb
     by_cases hlt : (i : Int) < below
     · go_wp2_with (first | (refine wpList_row rfl 41 _ rfl (w.heap.size + 1) rfl 41 NA (0,0) _ HNB.out undN rfl (infS HNAS.out) ?_) | (refine wpList_store_row rfl 41 _ _ rfl w.heap.size NA rfl rfl 41 zA HZ.out (infS HNAS.out) HNAS.out.symm HNAO.out ?_) | fail)
       refine bodyPost_ret (v:=.agg NA) (results_cell_row rfl _ _ w.heap.size 41 NA (0,0) _ rfl (setRow_heap _ _ _ _ _ _ HZ.out) undN rfl (infS HNAS.out)) rfl ?_
       rw [HNA.out]
       exact TRel.done HD.out hbl hi HLEN.out HST.out HKIDS.out HRD.out HG.out HNN.out HOW.out HROW.out
     · go_wp2_with (first | (refine wpList_row rfl 41 _ rfl (w.heap.size + 1) rfl 41 NA (0,0) _ HNB.out undN rfl (infS HNAS.out) ?_) | (refine wpList_store_row rfl 41 _ _ rfl w.heap.size NA rfl rfl 41 zA HZ.out (infS HNAS.out) HNAS.out.symm HNAO.out ?_) | fail)
       refine bodyPost_ret (v:=.agg NA) (results_cell_row rfl _ _ w.heap.size 41 NA (0,0) _ rfl (setRow_heap _ _ _ _ _ _ HZ.out) undN rfl (infS HNAS.out)) rfl ?_
       rw [HNA.out]
       exact TRel.done HD.out hbl hi HLEN.out HST.out HKIDS.out HRD.out HG.out HNN.out HOW.out HROW.out
    | false =>
     rw [hb] at c2 hstop
     have hlt : ¬ (i : Int) < below:=by simpa using hstop
     clear hrd hg hz hn hown hrow hkids hcap hnod hrs hlen hNA hNAs hNAo hst hstop hb
     go_wp2_with (first | (refine wpList_row rfl 41 _ rfl (w.heap.size + 1) rfl 41 NA (0,0) _ HNB.out undN rfl (infS HNAS.out) ?_) | (refine wpList_store_row rfl 41 _ _ rfl w.heap.size NA rfl rfl 41 zA HZ.out (infS HNAS.out) HNAS.out.symm HNAO.out ?_) | fail)
     refine bodyPost_ret (v:=.agg NA) (results_cell_row rfl _ _ w.heap.size 41 NA (0,0) _ rfl (setRow_heap _ _ _ _ _ _ HZ.out) undN rfl (infS HNAS.out)) rfl ?_
     rw [HNA.out]
     exact TRel.done HD.out hbl hi HLEN.out HST.out HKIDS.out HRD.out HG.out HNN.out HOW.out HROW.out
  · rw [hbad] at c2
    have hltI : (i : Int) < below:=by have:=HN.out; omega
    have hC : Calls Tryz.prog 107 #[.pointer (some ⟨b,0,none⟩),.int .i64 (dep + 1)] wr.drew (fun e w' => ∃ N2 A2 c2,e = .returned (.agg N2) ∧ N2 = nodeA (RS.node f r1).1.d A2 (RS.node f r1).1.l.length c2 ∧ (RS.node f r1).1.d.ok ∧ SlZ w' (fun k => wr.heap.size ≤ k ∧ k < w'.heap.size) A2 c2 (RS.node f r1).1.l ∧ RdAt b (RS.node f r1).2 w' ∧ wr.grownBy w' (some b)) :=
     (HIH.out b r1 wr.drew (dep + 1) HDEP.out hrd hbad (hcap.2 hbad) hrs hb3 (show ErrC wr from HE.out.keep hg hb3)).mono (by rintro e w' ⟨A2,c2,rfl,h1,h2,h3,h4⟩; exact ⟨_,A2,c2,rfl,rfl,h1,h2,h3,⟨h4.os,h4.tape,h4.output,h4.size,h4.block⟩⟩)
    have hX : wr.cell? ⟨w.heap.size + 1,21,none⟩ = some (.slice A i c):=by rw [Lib.cell_of_heap HNN.out]; rfl
    have hfX : wr.frozen? ⟨w.heap.size + 1,21,none⟩ = false:=by simp [World.frozen?,HNN.out]
    have hne1 : some (w.heap.size + 1) ≠ (Value.slice A i c).ownBlock:=owns_ne hown (by omega)
    have hneb : b ≠ w.heap.size + 1:=by omega
    have HBAD:=Jh hbad
    have HC:=Jh hC
    have HX:=Jh hX
    have HFX:=Jh hfX
    have HNE:=Jh hne1
    have HI:=Jh hlt
    clear hC hrd hg hz hn hown hrow hkids hcap hnod hrs hlen hNA hNAs hNAo hlt hbad hne1 hX hfX
    go_wp2_with (fail)
    refine wp_region_any (by kernel_rfl) ?_
    try (change wpAny _ _ _ _ _ _ _ (World.drew _))
    refine wpAny_take (i:=0) (v:=.pointer (some ⟨w.heap.size + 1,21,none⟩)) rfl (by as_aux_lemma => kernel_rfl) (by as_aux_lemma => kernel_rfl) (by as_aux_lemma => kernel_rfl) (fun _ _ _ h => h) (Or.inl ⟨by as_aux_lemma => kernel_rfl,by (intro w'; go_simp)⟩) ?_
    try simp only [Act.put,List.setIfInBounds_toArray]
    refine wpAny_take (i:=2) (v:=.pointer (some ⟨b,0,none⟩)) rfl (by as_aux_lemma => kernel_rfl) (by as_aux_lemma => kernel_rfl) (by as_aux_lemma => kernel_rfl) (fun _ _ _ h => h) (Or.inl ⟨by as_aux_lemma => kernel_rfl,by (intro w'; go_simp)⟩) ?_
    try simp only [Act.put]
    refine wpAny_take (i:=3) (v:=.int .i64 dep) rfl (by as_aux_lemma => kernel_rfl) (by as_aux_lemma => kernel_rfl) (by as_aux_lemma => kernel_rfl) (fun _ _ _ h => h) (Or.inl ⟨by as_aux_lemma => kernel_rfl,by (intro w'; go_simp)⟩) ?_
    try simp only [Act.put]
    refine wpAny_take (i:=4) (v:=.int .i64 (dep + 1)) rfl (by as_aux_lemma => kernel_rfl) (by as_aux_lemma => kernel_rfl) (by as_aux_lemma => kernel_rfl) (fun _ _ _ h => h) (Or.inl ⟨by as_aux_lemma => kernel_rfl,by (intro w'; go_simp)⟩) ?_
    try simp only [Act.put]
    refine wpAny_ready (rs:=[1,5]) (by kernel_rfl) (by simp) ?_
    have hX:=HX.out
    refine AllReady.cons rfl (fun K hK => ?_) ?_
    · skip
      go_simp
      refine hK _ _ ?_
      clear hK K
      try simp only [sX]
      refine wpAny_ready (rs:=[5]) (by kernel_rfl) (by simp) ?_
      refine AllReady.cons rfl (fun K hK => ?_) AllReady.nil
      go_simp
      refine HC.out.mono ?_
      rintro e w2 ⟨N2,A2,c2,rfl,hN2,hd2,hs2,hr2,g2⟩
      have hN2s : N2.size = 22:=by rw [hN2]; rfl
      have hX : w2.cell? ⟨w.heap.size + 1,21,none⟩ = some (.slice A i c):=keep_grown HX.out g2 (by intro e; have e2:=Option.some.inj e; dsimp only at e2; omega)
      have HN2:=Jh hN2
      have HD2:=Jh hd2
      have HS2:=Jh hs2
      have HR2:=Jh hr2
      have HG2:=Jh g2
      have HX2:=Jh hX
      clear hN2 hd2 hs2 hr2 g2
      try dsimp only
      refine hK _ _ ?_
      clear hK K
      try simp only [sX]
      refine wpAny_ready (rs:=[6]) (by kernel_rfl) (by simp) ?_
      refine AllReady.cons rfl (fun K hK => ?_) AllReady.nil
      refine step_oneNode rfl 137 rfl N2 rfl hN2s ?_
      have hX : (w2.alloc (.cells N2 41)).cell? ⟨w.heap.size + 1,21,none⟩ = some (.slice A i c):=keep_alloc HX2.out _
      refine hK _ _ ?_
      clear hK K
      try simp only [Act.put,List.setIfInBounds_toArray]
      refine wpAny_ready (rs:=[7]) (by kernel_rfl) (by simp) ?_
      refine AllReady.cons rfl (fun K hK => ?_) AllReady.nil
      have hown3 : (w2.alloc (.cells N2 41)).ownsRow (w.heap.size + 2) 41 22 (.slice A i c) i xs:=owns_keep HOW.out (fun k hk hl => (heapOld _ _ _ (Nat.lt_of_lt_of_le hl HG2.out.size)).trans (HG2.out.block k hl (fun e => by injection e with e; omega)))
      have hone : ∀ u ∈ N2.toList,u.oneCell' = true:=by rw [HN2.out]; exact fun u hu => head_one _ _ _ _ u hu
      have hsz3 : w.heap.size + 2 ≤ w2.heap.size:=Nat.le_trans hsz HG2.out.size
      refine step_append_lies _ rfl (.tmp 133) (.tmp 138) 39 rfl (w.heap.size + 2) 41 ti _ 22 192 undNs hti hz0 hz1 hz2 rfl (by decide) (.slice A i c) i xs rfl hown3 ⟨w2.heap.size,0,none⟩ 1 1 N2.toList rfl (by simp [hN2s]) (World.news_of_block (heap_alloc_new w2 (.cells N2 41))) hone (by decide) (by unfold maxLen; omega) (by omega) (by rw [World.size_alloc]; omega) (w2.heap.size + 1) (World.size_alloc _ _) ?_
      intro g3 cap3 w4 hown4 hgrow hat hlt4
      have hX : w4.cell? ⟨w.heap.size + 1,21,none⟩ = some (.slice A i c):=keep_grown (keep_alloc HX2.out _) hgrow HNE.out
      have h4n : w4.heap[w.heap.size + 1]? = some (.cells (nodeA d A i c) 41):=(hgrow.block _ (by rw [World.size_alloc]; omega) HNE.out).trans ((heapOld _ _ _ (by omega)).trans (kept_ HNN.out HG2.out (by omega)))
      have hfX : w4.frozen? ⟨w.heap.size + 1,21,none⟩ = false:=by simp [World.frozen?,h4n]
      have HO4:=Jh hown4
      have HG4:=Jh hgrow
      have HAT:=Jh hat
      clear hown3 hone hown4 hgrow hat h4n
      refine hK _ _ ?_
      clear hK K
      try simp only [Act.put]
      refine wpAny_take (i:=8) (v:=.pointer (some ⟨w.heap.size + 1,21,none⟩)) rfl (by as_aux_lemma => kernel_rfl) (by as_aux_lemma => kernel_rfl) (by as_aux_lemma => kernel_rfl) (fun _ _ _ h => h) (Or.inl ⟨by as_aux_lemma => kernel_rfl,by (intro w'; go_simp)⟩) ?_
      try simp only [Act.put]
      refine wpAny_ready (rs:=[9]) (by kernel_rfl) (by simp) ?_
      refine AllReady.cons rfl (fun K hK => ?_) AllReady.nil
      go_simp
      refine hK _ _ ?_
      clear hK K
      try simp only [sX]
      refine wpAny_done (by kernel_rfl) ?_ _
      go_wp2
      go_roundg (n - (i + 1))
      case measure => have:=HI.out; omega
      case rel =>
       rw [HN2.out] at HO4 HG4
       exact TRel.step hbl HI.out HLEN.out HNOD.out HCAP.out HRS.out HBAD.out HKIDS.out HG.out HZ.out HNN.out HOW.out HROW.out HD2.out HS2.out HR2.out HG2.out HG4.out HO4.out HAT.out
    refine AllReady.cons rfl (fun K hK => ?_) AllReady.nil
    go_simp
    refine HC.out.mono ?_
    rintro e w2 ⟨N2,A2,c2,rfl,hN2,hd2,hs2,hr2,g2⟩
    have hN2s : N2.size = 22:=by rw [hN2]; rfl
    have hX : w2.cell? ⟨w.heap.size + 1,21,none⟩ = some (.slice A i c):=keep_grown HX.out g2 (by intro e; have e2:=Option.some.inj e; dsimp only at e2; omega)
    have HN2:=Jh hN2
    have HD2:=Jh hd2
    have HS2:=Jh hs2
    have HR2:=Jh hr2
    have HG2:=Jh g2
    have HX2:=Jh hX
    clear hN2 hd2 hs2 hr2 g2
    try dsimp only
    refine hK _ _ ?_
    clear hK K
    try simp only [sX]
    refine wpAny_ready (rs:=[1,6]) (by kernel_rfl) (by simp) ?_
    refine AllReady.cons rfl (fun K hK => ?_) ?_
    · skip
      go_simp
      refine hK _ _ ?_
      clear hK K
      try simp only [sX]
      refine wpAny_ready (rs:=[6]) (by kernel_rfl) (by simp) ?_
      refine AllReady.cons rfl (fun K hK => ?_) AllReady.nil
      refine step_oneNode rfl 137 rfl N2 rfl hN2s ?_
      have hX : (w2.alloc (.cells N2 41)).cell? ⟨w.heap.size + 1,21,none⟩ = some (.slice A i c):=keep_alloc HX2.out _
      refine hK _ _ ?_
      clear hK K
      try simp only [Act.put,List.setIfInBounds_toArray]
      refine wpAny_ready (rs:=[7]) (by kernel_rfl) (by simp) ?_
      refine AllReady.cons rfl (fun K hK => ?_) AllReady.nil
      have hown3 : (w2.alloc (.cells N2 41)).ownsRow (w.heap.size + 2) 41 22 (.slice A i c) i xs:=owns_keep HOW.out (fun k hk hl => (heapOld _ _ _ (Nat.lt_of_lt_of_le hl HG2.out.size)).trans (HG2.out.block k hl (fun e => by injection e with e; omega)))
      have hone : ∀ u ∈ N2.toList,u.oneCell' = true:=by rw [HN2.out]; exact fun u hu => head_one _ _ _ _ u hu
      have hsz3 : w.heap.size + 2 ≤ w2.heap.size:=Nat.le_trans hsz HG2.out.size
      refine step_append_lies _ rfl (.tmp 133) (.tmp 138) 39 rfl (w.heap.size + 2) 41 ti _ 22 192 undNs hti hz0 hz1 hz2 rfl (by decide) (.slice A i c) i xs rfl hown3 ⟨w2.heap.size,0,none⟩ 1 1 N2.toList rfl (by simp [hN2s]) (World.news_of_block (heap_alloc_new w2 (.cells N2 41))) hone (by decide) (by unfold maxLen; omega) (by omega) (by rw [World.size_alloc]; omega) (w2.heap.size + 1) (World.size_alloc _ _) ?_
      intro g3 cap3 w4 hown4 hgrow hat hlt4
      have hX : w4.cell? ⟨w.heap.size + 1,21,none⟩ = some (.slice A i c):=keep_grown (keep_alloc HX2.out _) hgrow HNE.out
      have h4n : w4.heap[w.heap.size + 1]? = some (.cells (nodeA d A i c) 41):=(hgrow.block _ (by rw [World.size_alloc]; omega) HNE.out).trans ((heapOld _ _ _ (by omega)).trans (kept_ HNN.out HG2.out (by omega)))
      have hfX : w4.frozen? ⟨w.heap.size + 1,21,none⟩ = false:=by simp [World.frozen?,h4n]
      have HO4:=Jh hown4
      have HG4:=Jh hgrow
      have HAT:=Jh hat
      clear hown3 hone hown4 hgrow hat h4n
      refine hK _ _ ?_
      clear hK K
      try simp only [Act.put]
      refine wpAny_take (i:=8) (v:=.pointer (some ⟨w.heap.size + 1,21,none⟩)) rfl (by as_aux_lemma => kernel_rfl) (by as_aux_lemma => kernel_rfl) (by as_aux_lemma => kernel_rfl) (fun _ _ _ h => h) (Or.inl ⟨by as_aux_lemma => kernel_rfl,by (intro w'; go_simp)⟩) ?_
      try simp only [Act.put]
      refine wpAny_ready (rs:=[9]) (by kernel_rfl) (by simp) ?_
      refine AllReady.cons rfl (fun K hK => ?_) AllReady.nil
      go_simp
      refine hK _ _ ?_
      clear hK K
      try simp only [sX]
      refine wpAny_done (by kernel_rfl) ?_ _
      go_wp2
      go_roundg (n - (i + 1))
      case measure => have:=HI.out; omega
      case rel =>
       rw [HN2.out] at HO4 HG4
       exact TRel.step hbl HI.out HLEN.out HNOD.out HCAP.out HRS.out HBAD.out HKIDS.out HG.out HZ.out HNN.out HOW.out HROW.out HD2.out HS2.out HR2.out HG2.out HG4.out HO4.out HAT.out
    refine AllReady.cons rfl (fun K hK => ?_) AllReady.nil
    refine step_oneNode rfl 137 rfl N2 rfl hN2s ?_
    have hX : (w2.alloc (.cells N2 41)).cell? ⟨w.heap.size + 1,21,none⟩ = some (.slice A i c):=keep_alloc HX2.out _
    refine hK _ _ ?_
    clear hK K
    try simp only [Act.put,List.setIfInBounds_toArray]
    refine wpAny_ready (rs:=[1]) (by kernel_rfl) (by simp) ?_
    refine AllReady.cons rfl (fun K hK => ?_) AllReady.nil
    go_simp
    refine hK _ _ ?_
    clear hK K
    try simp only [sX]
    refine wpAny_ready (rs:=[7]) (by kernel_rfl) (by simp) ?_
    refine AllReady.cons rfl (fun K hK => ?_) AllReady.nil
    have hown3 : (w2.alloc (.cells N2 41)).ownsRow (w.heap.size + 2) 41 22 (.slice A i c) i xs:=owns_keep HOW.out (fun k hk hl => (heapOld _ _ _ (Nat.lt_of_lt_of_le hl HG2.out.size)).trans (HG2.out.block k hl (fun e => by injection e with e; omega)))
    have hone : ∀ u ∈ N2.toList,u.oneCell' = true:=by rw [HN2.out]; exact fun u hu => head_one _ _ _ _ u hu
    have hsz3 : w.heap.size + 2 ≤ w2.heap.size:=Nat.le_trans hsz HG2.out.size
    refine step_append_lies _ rfl (.tmp 133) (.tmp 138) 39 rfl (w.heap.size + 2) 41 ti _ 22 192 undNs hti hz0 hz1 hz2 rfl (by decide) (.slice A i c) i xs rfl hown3 ⟨w2.heap.size,0,none⟩ 1 1 N2.toList rfl (by simp [hN2s]) (World.news_of_block (heap_alloc_new w2 (.cells N2 41))) hone (by decide) (by unfold maxLen; omega) (by omega) (by rw [World.size_alloc]; omega) (w2.heap.size + 1) (World.size_alloc _ _) ?_
    intro g3 cap3 w4 hown4 hgrow hat hlt4
    have hX : w4.cell? ⟨w.heap.size + 1,21,none⟩ = some (.slice A i c):=keep_grown (keep_alloc HX2.out _) hgrow HNE.out
    have h4n : w4.heap[w.heap.size + 1]? = some (.cells (nodeA d A i c) 41):=(hgrow.block _ (by rw [World.size_alloc]; omega) HNE.out).trans ((heapOld _ _ _ (by omega)).trans (kept_ HNN.out HG2.out (by omega)))
    have hfX : w4.frozen? ⟨w.heap.size + 1,21,none⟩ = false:=by simp [World.frozen?,h4n]
    have HO4:=Jh hown4
    have HG4:=Jh hgrow
    have HAT:=Jh hat
    clear hown3 hone hown4 hgrow hat h4n
    refine hK _ _ ?_
    clear hK K
    try simp only [Act.put,List.setIfInBounds_toArray]
    refine wpAny_take (i:=8) (v:=.pointer (some ⟨w.heap.size + 1,21,none⟩)) rfl (by as_aux_lemma => kernel_rfl) (by as_aux_lemma => kernel_rfl) (by as_aux_lemma => kernel_rfl) (fun _ _ _ h => h) (Or.inl ⟨by as_aux_lemma => kernel_rfl,by (intro w'; go_simp)⟩) ?_
    try simp only [Act.put]
    refine wpAny_ready (rs:=[9]) (by kernel_rfl) (by simp) ?_
    refine AllReady.cons rfl (fun K hK => ?_) AllReady.nil
    go_simp
    refine hK _ _ ?_
    clear hK K
    try simp only [sX]
    refine wpAny_done (by kernel_rfl) ?_ _
    go_wp2
    go_roundg (n - (i + 1))
    case measure => have:=HI.out; omega
    case rel =>
     rw [HN2.out] at HO4 HG4
     exact TRel.step hbl HI.out HLEN.out HNOD.out HCAP.out HRS.out HBAD.out HKIDS.out HG.out HZ.out HNN.out HOW.out HROW.out HD2.out HS2.out HR2.out HG2.out HG4.out HO4.out HAT.out
end Go.Proofs.YtelombedjkbckaaGreatDoor
namespace Go.Proofs.YtelombedjkbckaaGreatDoor
set_option maxRecDepth 100000
set_option maxHeartbeats 4000000
open Go.RowKit Go.Shelf
theorem node_meets (b : Nat) (r : RS) (w : World) (dep : Int) (Q : Exit → Act → World → Prop) (c : Nat) (hbl : b < w.heap.size) (he : ErrC w) (hb : 3 ≤ b) (hs : r.rest.size ≤ 1048576)
 (H : Meets38 node38C Q b dep (RS.head c r).1 (RS.head c r).2.1 (RS.head c r).2.2 w) : Meets8 node8C Q b dep (c : Int) r w:=by
 intro u9 uA uB uC uD uE uF uG uH uI uJ uK uL uM uN uO uP uQ uR uS uT uU uV uW uX uY uZ ua ub uc ud ue uf ug uh ui uj uk ul um un uo up uq ur ut uu uv uw ux uy uz UA UB UC UD UE UF UG UH UI UJ UK UL UM UN UO UP UQ UR US UT UU UV UW UX UY UZ Ua Ub Uc Ud Ue Uf Ug Uh Ui Uj Uk Ul Um Un Uo Up Uq Ur Us Ut Uu Uv Uw Ux Uy Uz VA VB VC VD VE VF VG VH VI VJ VK VL VM VN VO VP VQ VR VS VT VU VV VW VX VY VZ Va Vb Vc w1 h1 g1 k1 k2
 have he1:=he.keep g1 hb
 unfold RS.head at H
 by_cases k79 : c = 79
 · subst k79
   rw [if_pos rfl] at H
   dsimp only at H
   exact head_79 u9 uA uB uC uD uE uF uG uH uI uJ uK uL uM uN uO uP uQ uR uS uT uU uV uW uX uY uZ ua ub uc ud ue uf ug uh ui uj uk ul um un uo up uq ur ut uu uv uw ux uy uz UA UB UC UD UE UF UG UH UI UJ UK UL UM UN UO UP UQ UR US UT UU UV UW UX UY UZ Ua Ub Uc Ud Ue Uf Ug Uh Ui Uj Uk Ul Um Un Uo Up Uq Ur Us Ut Uu Uv Uw Ux Uy Uz VA VB VC VD VE VF VG VH VI VJ VK VL VM VN VO VP VQ VR VS VT VU VV VW VX VY VZ Va Vb Vc b r w w1 dep Q hbl h1 g1 k1 k2 he1 hb hs H
 rw [if_neg k79] at H
 by_cases k80 : c = 80
 · subst k80
   rw [if_pos rfl] at H
   dsimp only at H
   exact head_80 u9 uA uB uC uD uE uF uG uH uI uJ uK uL uM uN uO uP uQ uR uS uT uU uV uW uX uY uZ ua ub uc ud ue uf ug uh ui uj uk ul um un uo up uq ur ut uu uv uw ux uy uz UA UB UC UD UE UF UG UH UI UJ UK UL UM UN UO UP UQ UR US UT UU UV UW UX UY UZ Ua Ub Uc Ud Ue Uf Ug Uh Ui Uj Uk Ul Um Un Uo Up Uq Ur Us Ut Uu Uv Uw Ux Uy Uz VA VB VC VD VE VF VG VH VI VJ VK VL VM VN VO VP VQ VR VS VT VU VV VW VX VY VZ Va Vb Vc b r w w1 dep Q hbl h1 g1 k1 k2 he1 hb hs H
 rw [if_neg k80] at H
 by_cases k82 : c = 82
 · subst k82
   rw [if_pos rfl] at H
   dsimp only at H
   exact head_82 u9 uA uB uC uD uE uF uG uH uI uJ uK uL uM uN uO uP uQ uR uS uT uU uV uW uX uY uZ ua ub uc ud ue uf ug uh ui uj uk ul um un uo up uq ur ut uu uv uw ux uy uz UA UB UC UD UE UF UG UH UI UJ UK UL UM UN UO UP UQ UR US UT UU UV UW UX UY UZ Ua Ub Uc Ud Ue Uf Ug Uh Ui Uj Uk Ul Um Un Uo Up Uq Ur Us Ut Uu Uv Uw Ux Uy Uz VA VB VC VD VE VF VG VH VI VJ VK VL VM VN VO VP VQ VR VS VT VU VV VW VX VY VZ Va Vb Vc b r w w1 dep Q hbl h1 g1 k1 k2 he1 hb hs H
 rw [if_neg k82] at H
 by_cases k67 : c = 67
 · subst k67
   rw [if_pos rfl] at H
   dsimp only at H
   exact head_67 u9 uA uB uC uD uE uF uG uH uI uJ uK uL uM uN uO uP uQ uR uS uT uU uV uW uX uY uZ ua ub uc ud ue uf ug uh ui uj uk ul um un uo up uq ur ut uu uv uw ux uy uz UA UB UC UD UE UF UG UH UI UJ UK UL UM UN UO UP UQ UR US UT UU UV UW UX UY UZ Ua Ub Uc Ud Ue Uf Ug Uh Ui Uj Uk Ul Um Un Uo Up Uq Ur Us Ut Uu Uv Uw Ux Uy Uz VA VB VC VD VE VF VG VH VI VJ VK VL VM VN VO VP VQ VR VS VT VU VV VW VX VY VZ Va Vb Vc b r w w1 dep Q hbl h1 g1 k1 k2 he1 hb hs H
 rw [if_neg k67] at H
 by_cases k85 : c = 85
 · subst k85
   rw [if_pos rfl] at H
   dsimp only at H
   exact head_85 u9 uA uB uC uD uE uF uG uH uI uJ uK uL uM uN uO uP uQ uR uS uT uU uV uW uX uY uZ ua ub uc ud ue uf ug uh ui uj uk ul um un uo up uq ur ut uu uv uw ux uy uz UA UB UC UD UE UF UG UH UI UJ UK UL UM UN UO UP UQ UR US UT UU UV UW UX UY UZ Ua Ub Uc Ud Ue Uf Ug Uh Ui Uj Uk Ul Um Un Uo Up Uq Ur Us Ut Uu Uv Uw Ux Uy Uz VA VB VC VD VE VF VG VH VI VJ VK VL VM VN VO VP VQ VR VS VT VU VV VW VX VY VZ Va Vb Vc b r w w1 dep Q hbl h1 g1 k1 k2 he1 hb hs H
 rw [if_neg k85] at H
 by_cases k66 : c = 66
 · subst k66
   rw [if_pos rfl] at H
   dsimp only at H
   exact head_66 u9 uA uB uC uD uE uF uG uH uI uJ uK uL uM uN uO uP uQ uR uS uT uU uV uW uX uY uZ ua ub uc ud ue uf ug uh ui uj uk ul um un uo up uq ur ut uu uv uw ux uy uz UA UB UC UD UE UF UG UH UI UJ UK UL UM UN UO UP UQ UR US UT UU UV UW UX UY UZ Ua Ub Uc Ud Ue Uf Ug Uh Ui Uj Uk Ul Um Un Uo Up Uq Ur Us Ut Uu Uv Uw Ux Uy Uz VA VB VC VD VE VF VG VH VI VJ VK VL VM VN VO VP VQ VR VS VT VU VV VW VX VY VZ Va Vb Vc b r w w1 dep Q hbl h1 g1 k1 k2 he1 hb hs H
 rw [if_neg k66] at H
 by_cases k77 : c = 77
 · subst k77
   rw [if_pos rfl] at H
   dsimp only at H
   exact head_77 u9 uA uB uC uD uE uF uG uH uI uJ uK uL uM uN uO uP uQ uR uS uT uU uV uW uX uY uZ ua ub uc ud ue uf ug uh ui uj uk ul um un uo up uq ur ut uu uv uw ux uy uz UA UB UC UD UE UF UG UH UI UJ UK UL UM UN UO UP UQ UR US UT UU UV UW UX UY UZ Ua Ub Uc Ud Ue Uf Ug Uh Ui Uj Uk Ul Um Un Uo Up Uq Ur Us Ut Uu Uv Uw Ux Uy Uz VA VB VC VD VE VF VG VH VI VJ VK VL VM VN VO VP VQ VR VS VT VU VV VW VX VY VZ Va Vb Vc b r w w1 dep Q hbl h1 g1 k1 k2 he1 hs H
 rw [if_neg k77] at H
 by_cases k65 : c = 65
 · subst k65
   rw [if_pos rfl] at H
   dsimp only at H
   exact head_65 u9 uA uB uC uD uE uF uG uH uI uJ uK uL uM uN uO uP uQ uR uS uT uU uV uW uX uY uZ ua ub uc ud ue uf ug uh ui uj uk ul um un uo up uq ur ut uu uv uw ux uy uz UA UB UC UD UE UF UG UH UI UJ UK UL UM UN UO UP UQ UR US UT UU UV UW UX UY UZ Ua Ub Uc Ud Ue Uf Ug Uh Ui Uj Uk Ul Um Un Uo Up Uq Ur Us Ut Uu Uv Uw Ux Uy Uz VA VB VC VD VE VF VG VH VI VJ VK VL VM VN VO VP VQ VR VS VT VU VV VW VX VY VZ Va Vb Vc b r w w1 dep Q hbl h1 g1 k1 k2 he1 hb hs H
 rw [if_neg k65] at H
 by_cases k88 : c = 88
 · subst k88
   rw [if_pos rfl] at H
   dsimp only at H
   exact head_88 u9 uA uB uC uD uE uF uG uH uI uJ uK uL uM uN uO uP uQ uR uS uT uU uV uW uX uY uZ ua ub uc ud ue uf ug uh ui uj uk ul um un uo up uq ur ut uu uv uw ux uy uz UA UB UC UD UE UF UG UH UI UJ UK UL UM UN UO UP UQ UR US UT UU UV UW UX UY UZ Ua Ub Uc Ud Ue Uf Ug Uh Ui Uj Uk Ul Um Un Uo Up Uq Ur Us Ut Uu Uv Uw Ux Uy Uz VA VB VC VD VE VF VG VH VI VJ VK VL VM VN VO VP VQ VR VS VT VU VV VW VX VY VZ Va Vb Vc b r w w1 dep Q hbl h1 g1 k1 k2 H
 rw [if_neg k88] at H
 dsimp only at H
 exact head_V u9 uA uB uC uD uE uF uG uH uI uJ uK uL uM uN uO uP uQ uR uS uT uU uV uW uX uY uZ ua ub uc ud ue uf ug uh ui uj uk ul um un uo up uq ur ut uu uv uw ux uy uz UA UB UC UD UE UF UG UH UI UJ UK UL UM UN UO UP UQ UR US UT UU UV UW UX UY UZ Ua Ub Uc Ud Ue Uf Ug Uh Ui Uj Uk Ul Um Un Uo Up Uq Ur Us Ut Uu Uv Uw Ux Uy Uz VA VB VC VD VE VF VG VH VI VJ VK VL VM VN VO VP VQ VR VS VT VU VV VW VX VY VZ Va Vb Vc b r w w1 dep Q hbl h1 g1 k1 k2 he1 hb hs c k79 k80 k82 k67 k85 k66 k77 k65 k88 H
theorem node_stops (b : Nat) (r : RS) (w : World) (dep : Int) (h : RdAt b r w) (hbad : r.bad = false) (hn : r.nodes ≤ 256) (hst : r.rest.size = 0 ∨ 32 < dep ∨ 256 < r.nodes + 1) :
 Calls Tryz.prog 107 #[.pointer (some ⟨b,0,none⟩),.int .i64 dep] w fun e w' => e = .returned (.agg zA) ∧ RdTo b { r with nodes:=r.nodes + 1,bad:=true } w w':=by
 obtain ⟨s,k,bd⟩:=r
 dsimp only at hbad hn hst
 subst hbad
 have hbl:=h.lt
 obtain ⟨c0,c1,c2,z0,z1,z2⟩:=h.cells
 dsimp only at c0 c1 c2
 obtain ⟨wb,hwb⟩ : ∃ wb,wb = (w.setCell ⟨b,1,none⟩ (.int .i64 ((k : Int) + 1))).setCell ⟨b,2,none⟩ (.bool true):=⟨_,rfl⟩
 have hsb : wb.heap.size = w.heap.size:=by rw [hwb]; simp
 have rb : RdAt b ⟨s,k + 1,true⟩ wb:=by
  rw [hwb]
  exact (h.set1 (k + 1)).set2 true
 have gb : w.grownBy wb (some b):=by rw [hwb]; exact grown_trans (grown_set _ _ _ _) (grown_set _ _ _ _)
 have hk1 : (k : Int) + 1 ≤ 257:=by omega
 have hk0 : (0 : Int) ≤ (k : Int):=by omega
 have hfin : RdTo b ⟨s,k + 1,true⟩ w (wb.alloc (.cells zA 41)) :=
  ⟨rb.below ((Below.refl _ wb).alloc (Nat.le_refl _) _),grown_trans gb (grown_below b ((Below.refl _ wb).alloc (Nat.le_refl _) _))⟩
 have hK : (wb.alloc (.cells zA 41)).heap[w.heap.size]? = some (.cells zA 41):=by rw [← hsb]; exact heap_alloc_new _ _
 have HWB:=Jh hwb
 have HSB:=Jh hsb
 have HF:=Jh hfin
 have HK:=Jh hK
 clear hwb hsb rb gb hfin hK h
 by_cases h0 : s.size = 0
 · have hne : s.data.toList = []:=by
    rw [← List.length_eq_zero_iff]; simpa using h0
   have q1 : (s.toList == []) = true:=by rw [ByteArray.toList_eq,hne]; rfl
   have q2 : s.toList.isEmpty = true:=by rw [ByteArray.toList_eq,hne]; rfl
   clear hst h0 hne
   go_enter Tryz.func107,Tryz.ntmps107
   go_wp2_with (first | (refine wpList_nodeVar rfl rfl w.heap.size rfl ?_) | (rw [← HWB.out]; refine wpList_storeFresh (w:=wb) rfl _ _ _ rfl w.heap.size HSB.out zA rfl rfl infN rfl (node1 _) ?_) | fail)
   refine bodyPost_ret (v:=.agg zA) (results_cell_row rfl _ _ w.heap.size 41 zA (0,0) _ rfl HK.out undN rfl infN) rfl ?_
   exact ⟨rfl,HF.out⟩
 · have hne : s.data.toList ≠ []:=by
    intro e
    rw [← List.length_eq_zero_iff] at e
    exact h0 (by simpa using e)
   have q1 : (s.toList == []) = false:=by rw [beq_eq_false_iff_ne,ByteArray.toList_eq]; exact hne
   have q2 : s.toList.isEmpty = false:=by
    rw [ByteArray.toList_eq]
    cases hl : s.data.toList with
    | nil => exact absurd hl hne
    | cons a l => rfl
   clear hne
   by_cases hd : 32 < dep
   · clear hst h0
     go_enter Tryz.func107,Tryz.ntmps107
     go_wp2_with (first | (refine wpList_nodeVar rfl rfl w.heap.size rfl ?_) | (rw [← HWB.out]; refine wpList_storeFresh (w:=wb) rfl _ _ _ rfl w.heap.size HSB.out zA rfl rfl infN rfl (node1 _) ?_) | fail)
     refine bodyPost_ret (v:=.agg zA) (results_cell_row rfl _ _ w.heap.size 41 zA (0,0) _ rfl HK.out undN rfl infN) rfl ?_
     exact ⟨rfl,HF.out⟩
   · have hkk : 256 < (k : Int) + 1:=by omega
     clear hst h0
     go_enter Tryz.func107,Tryz.ntmps107
     go_wp2_with (first | (refine wpList_nodeVar rfl rfl w.heap.size rfl ?_) | (rw [← HWB.out]; refine wpList_storeFresh (w:=wb) rfl _ _ _ rfl w.heap.size HSB.out zA rfl rfl infN rfl (node1 _) ?_) | fail)
     refine bodyPost_ret (v:=.agg zA) (results_cell_row rfl _ _ w.heap.size 41 zA (0,0) _ rfl HK.out undN rfl infN) rfl ?_
     exact ⟨rfl,HF.out⟩
theorem zero_ok : zeroND.ok:=okND zKd zVv zNm zCa zCb zRw
theorem stop_post (f b : Nat) (r : RS) (w : World) (hst : f = 0 ∨ r.stops) {e : Ending} {w' : World} (h : e = .returned (.agg zA) ∧ RdTo b { r with nodes:=r.nodes + 1,bad:=true } w w') : NodePost b w (RS.node f r) e w':=by
 rw [node_stop f r hst]
 exact ⟨none,0,h.1,zero_ok,SlZ.nil _ _ _ _ (by decide),h.2⟩
theorem node_c : ∀ f : Nat,f ≤ 32 → NodeC f
 | 0,_ => fun b r w dep hdep hrd hbad hn hs hb he => (node_stops b r w dep hrd hbad hn (.inr (.inl (by omega)))).mono (fun _ _ h => stop_post 0 b r w (.inl rfl) h)
 | f + 1,hf => fun b r w dep hdep hrd hbad hn hs hb he => by
  have ih:=node_c f (by omega)
  by_cases hst : r.stops
  · refine (node_stops b r w dep hrd hbad hn ?_).mono (fun _ _ h => stop_post (f + 1) b r w (.inr hst) h)
    rcases hst with h | h
    · exact .inl h
    · exact .inr (.inr h)
  · have h0 : 0 < r.rest.size:=by unfold RS.stops at hst; omega
    have hn1 : r.nodes + 1 ≤ 256:=by unfold RS.stops at hst; omega
    have hl : (r.rest.data.toList.getD 0 0) = r.rest[0]'h0:=getD_at r.rest 0 h0
    refine node_pre b r w dep (by omega) hrd hbad hn1 h0 hs _ ?_
    rw [node_go f r hst,hl]
    unfold RS.behind
    rw [hl]
    have hbs:=begin_le r
    refine node_meets b r.begin_ w dep _ (r.rest[0]'h0).toNat hrd.lt he hb (by omega) ?_
    exact node_tail f (by omega) ih b _ w dep _ _ (by omega) (head_ok _ _ (by omega)) hrd.lt hb he (head_i64 _ _) (by rw [head_nodes,begin_nodes]; exact hn1) (Nat.le_trans (head_le _ _) (by omega))
end Go.Proofs.YtelombedjkbckaaGreatDoor
