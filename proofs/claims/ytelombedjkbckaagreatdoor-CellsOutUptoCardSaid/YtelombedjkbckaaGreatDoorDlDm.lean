/- tree.Decode. tree.Decode: what it makes lies in new memory. -/
import Derived.Test.YtelombedjkbckaaGreatDoorDiDj
import Derived.Test.YtelombedjkbckaaGreatDoorEaEbEd
import Derived.Test.YtelombedjkbckaaGreatDoorCwBuCx
namespace Go.Proofs.YtelombedjkbckaaGreatDoor
open Go.RowKit Go.Shelf
theorem results_cell_tmp {P : Program} {fn : Func} {p u : Tmp} {ty : TypeId} (h : fn.results = #[.cell p ty, .tmp u]) (tmps : Array Value) (w : World) (g : Nat) (t : TypeId) (cs : Array Value) (fr : Nat × Nat) (d : TypeDesc)
 (hp : tmps.getD p undef = .pointer (some ⟨g,0,none⟩)) (hg : w.heap[g]? = some (.cells cs t fr))
 (hu : P.underlying ty = some d) (hd : (match d with | .struct _ | .array _ _ => true | _ => false) = true) (hi : (P.info? ty).map (·.size) = some cs.size) :
 (results fn tmps).run P w = .ok (.tuple #[.agg cs,tmps.getD u undef]) w:=by
 have hp' : tmps[p]?.getD undef = .pointer (some ⟨g,0,none⟩):=by simpa using hp
 simp [results,h,hp',asAddr,run_loadVar_row w g t ty cs fr d hg hu hd hi]
theorem infR : (Tryz.prog.info? 162).map (·.size) = some 3:=by kernel_rfl
def decTr (s : ByteArray) : Tr:=(decodeT s).getD zeroTr
def decErr (s : ByteArray) : Int:=if (decodeT s).isSome = true then 0 else 6
def DecPost (w : World) (s : ByteArray) (e : Ending) (w' : World) : Prop :=
 ∃ A c,e = .returned (.tuple #[nodeV (decTr s).d A (decTr s).l.length c,.int .i64 (decErr s)]) ∧ (decTr s).d.ok ∧ SlAt w' w'.heap.size A c (decTr s).l ∧ Below w.heap.size w w'
theorem dec_none {s : ByteArray} (h : decodeT s = none) : decTr s = zeroTr ∧ decErr s = 6:=by
 unfold decTr decErr
 rw [h]
 exact ⟨rfl,rfl⟩
theorem dec_some {s : ByteArray} {t : Tr} (h : decodeT s = some t) : decTr s = t ∧ decErr s = 0:=by
 unfold decTr decErr
 rw [h]
 exact ⟨rfl,rfl⟩
theorem dec_row {B : Nat} {w w' : World} (h : Below B w w') (g : Nat) (hg : B ≤ g) (cs : Array Value) : Below B w (w'.setRow g cs):=below_row h hg cs
end Go.Proofs.YtelombedjkbckaaGreatDoor
namespace Go.Proofs.YtelombedjkbckaaGreatDoor
set_option maxRecDepth 100000
set_option maxHeartbeats 4000000
open Go.RowKit Go.Shelf
def DecPostZ (w : World) (s : ByteArray) (e : Ending) (w' : World) : Prop :=
 ∃ A c,e = .returned (.tuple #[nodeV (decTr s).d A (decTr s).l.length c,.int .i64 (decErr s)]) ∧ (decTr s).d.ok ∧ SlZ w' (fun k => w.heap.size ≤ k ∧ k < w'.heap.size) A c (decTr s).l ∧ Below w.heap.size w w'
theorem dec_badZ {w w' : World} {s : ByteArray} (h : decodeT s = none) (hb : Below w.heap.size w w') : DecPostZ w s (.returned (.tuple #[.agg zA,.int .i64 6])) w':=by
 obtain ⟨h1,h2⟩:=dec_none h
 unfold DecPostZ
 rw [h1,h2]
 exact ⟨none,0,rfl,zero_ok,⟨Nat.le_refl _,by decide,.inl rfl⟩,hb⟩
theorem slZ_row {w : World} {A : Option Addr} {c : Nat} {l : List Tr} {g B B' : Nat} {cs : Array Value} (h : SlZ w (fun k => B ≤ k ∧ k < w.heap.size) A c l) (hg : g < B) (hB : B' ≤ B) : SlZ (w.setRow g cs) (fun k => B' ≤ k ∧ k < (w.setRow g cs).heap.size) A c l:=by
 have hsr : (w.setRow g cs).heap.size = w.heap.size:=by simp
 refine h.move (fun k hk => by rw [hsr]; have:=hk.1; exact ⟨by omega,hk.2⟩) (fun p hp => World.cell?_of_block (heap_setRow_other _ _ _ _ ?_))
 have:=hp.1
 omega
theorem decodeZ_c (s : ByteArray) (hs : s.size ≤ 1048576) (w : World) (he : ErrC w) (ht : Tab w) :
 Calls Tryz.prog 80 #[.string s] w (DecPostZ w s):=by
 have h3 : 3 ≤ w.heap.size:=by
  have h1:=tab_lt ht
  obtain ⟨⟨_,e1,_⟩,⟨_,e2,_⟩⟩:=he
  have h2:=World.block_lt_of_cell? w _ e1
  have h3:=World.block_lt_of_cell? w _ e2
  dsimp only at h1 h2 h3
  omega
 obtain ⟨W1,hW1⟩ : ∃ W1,W1 = (w.alloc (.cells zA 41)).alloc (.cells #[.string s,.int .i64 0,.bool false] 162):=⟨_,rfl⟩
 have hb1 : Below w.heap.size w W1:=by rw [hW1]; exact ((Below.refl _ w).alloc (Nat.le_refl _) _).alloc (by simp) _
 have hs1 : W1.heap.size = w.heap.size + 2:=by rw [hW1]; simp
 have hr1 : RdAt (w.heap.size + 1) ⟨s,0,false⟩ W1:=by
  rw [hW1]
  have:=World.alloc_heap_new (w.alloc (.cells zA 41)) (.cells #[.string s,.int .i64 0,.bool false] 162)
  rwa [World.size_alloc] at this
 have hz1 : W1.heap[w.heap.size]? = some (.cells zA 41):=by rw [hW1]; exact (heapOld _ _ _ (by simp)).trans (heap_alloc_new _ _)
 have hN:=node_c 32 (Nat.le_refl _) (w.heap.size + 1) ⟨s,0,false⟩ W1 1 (by decide) hr1 rfl (Nat.zero_le _) hs (by omega) (he.below hb1)
 have hsz : (RS.node 32 ⟨s,0,false⟩).1.size ≤ 257:=by
  have h1:=node_nodes 32 ⟨s,0,false⟩
  have h2:=(node_cap 32 ⟨s,0,false⟩ (Nat.zero_le _)).1
  dsimp only at h1
  omega
 have hsh : Short (RS.node 32 ⟨s,0,false⟩).1:=fun x hx => by
  have:=node_short 32 ⟨s,0,false⟩ x hx
  dsimp only at this
  omega
 have hD : decodeT s = if (RS.node 32 ⟨s,0,false⟩).2.bad = false ∧ (RS.node 32 ⟨s,0,false⟩).2.rest.size = 0 ∧ checkI (RS.node 32 ⟨s,0,false⟩).1 = 0 ∧ codeL (RS.node 32 ⟨s,0,false⟩).1 = s.data.toList then some (RS.node 32 ⟨s,0,false⟩).1 else none:=rfl
 generalize RS.node 32 ⟨s,0,false⟩ = x at *
 obtain ⟨t,q⟩:=x
 dsimp only at hN hsz hsh hD
 have HN:=Jh hN
 have HW1:=Jh hW1
 have HB1:=Jh hb1
 have HZ1:=Jh hz1
 have HSH:=Jh hsh
 have HDD:=Jh hD
 have HT:=Jh ht
 have HS1:=Jh hs1
 clear hN hW1 hb1 hz1 hsh hD ht he hr1 hs1
 go_enter Tryz.func80,Tryz.ntmps80
 go_wp2_with (first | (refine wpList_nodeVar rfl rfl w.heap.size rfl ?_) | (refine wpList_storeFresh (w:=w.alloc (.cells zA 41)) rfl _ _ _ rfl (w.heap.size + 1) (World.size_alloc _ _) #[.string s,.int .i64 0,.bool false] rfl rfl infR rfl (by simp [Value.oneCell']) ?_; rw [← HW1.out]) | fail)
 refine HN.out.mono ?_
 rintro e w2 ⟨A,c,rfl,hd,hsl,hrd,hg⟩
 dsimp only at hd hsl hrd
 obtain ⟨N,hNN⟩ : ∃ N,N = nodeA t.d A t.l.length c:=⟨_,rfl⟩
 have hNs : N.size = 22:=by rw [hNN]; rfl
 have hNo : N.all (·.oneCell') = true:=by rw [hNN]; exact all_oneCell_toArray (fun u hu => head_one t.d A t.l.length c u hu)
 obtain ⟨W3,hW3⟩ : ∃ W3,W3 = w2.alloc (.cells N 41):=⟨_,rfl⟩
 have hs12:=hg.size
 rw [HS1.out] at hs12
 have hb23 : Below w2.heap.size w2 W3:=by rw [hW3]; exact (Below.refl _ _).alloc (Nat.le_refl _) _
 have hb12 : Below w.heap.size W1 w2:=⟨hg.os,hg.tape,hg.output,hg.size,fun k hk => hg.block k (by have:=HS1.out; omega) (fun e => by have:=Option.some.inj e; omega)⟩
 have hb3 : Below w.heap.size w W3:=(HB1.out.trans hb12).trans (hb23.mono (by omega))
 have hr3 : RdAt (w.heap.size + 1) q W3:=hrd.below hb23
 have hz3 : W3.heap[w.heap.size]? = some (.cells zA 41):=(hb23.block _ (by omega)).trans (kept_ HZ1.out hg (by omega))
 have hn3 : W3.heap[w2.heap.size]? = some (.cells N 41):=by rw [hW3]; exact heap_alloc_new _ _
 have hs3 : W3.heap.size = w2.heap.size + 1:=by rw [hW3]; simp
 have hsl3 : SlZ W3 (fun k => w.heap.size + 2 ≤ k ∧ k < W3.heap.size) A c t.l:=hsl.move (fun k hk => by have:=HS1.out; omega) (fun p hp => World.cell?_of_block (hb23.block _ hp.2))
 have hcode:=code_c W3 W3.heap.size (Nat.le_refl _) t A c hd (hsl3.at_ (fun k hk => hk.2)) (by omega) HSH.out (tab_below HT.out hb3)
 obtain ⟨x0,x1,x2,f0,f1,f2⟩:=hr3.cells
 rw [nodeV,← hNN] at hcode ⊢
 have HC:=Jh hcode
 have HNN:=Jh hNN
 have HNS:=Jh hNs
 have HNO:=Jh hNo
 have HW3:=Jh hW3
 have HB3:=Jh hb3
 have HZ3:=Jh hz3
 have HN3:=Jh hn3
 have HS3:=Jh hs3
 have HSL3:=Jh hsl3
 have HD:=Jh hd
 clear hcode hNN hNs hNo hW3 hb23 hb12 hb3 hr3 hz3 hn3 hs3 hsl3 hd hsl hrd hg x1
 by_cases hbad : q.bad = true
 · rw [hbad] at x2
   have hno : decodeT s = none:=by rw [HDD.out,if_neg (fun h => by rw [hbad] at h; cases h.1)]
   have HNO2:=Jh hno
   clear hno hbad x0
   as_aux_lemma =>
   go_wp2_with (first | (refine wpList_nodeVar rfl rfl w2.heap.size rfl ?_) | (refine wpList_storeFresh (w:=w2) rfl _ _ _ rfl w2.heap.size rfl N rfl rfl (infS HNS.out) HNS.out.symm HNO.out ?_; rw [← HW3.out]) | (refine wpList_store_row rfl 41 _ _ rfl w.heap.size zA rfl rfl 41 zA HZ3.out infN rfl (node1 _) ?_) | fail)
   refine bodyPost_ret (v:=.tuple #[.agg zA,.int .i64 6]) (results_cell_tmp (p:=2) (u:=3) rfl _ _ w.heap.size 41 zA (0,0) _ rfl (setRow_heap _ _ _ _ _ _ HZ3.out) undN rfl infN) rfl ?_
   exact dec_badZ HNO2.out (dec_row HB3.out _ (Nat.le_refl _) _)
 · have hbf : q.bad = false:=by cases hq : q.bad with | true => exact absurd hq hbad | false => rfl
   rw [hbf] at x2
   clear hbad
   by_cases h0 : q.rest.size = 0
   · have hne : q.rest.data.toList = []:=by rw [← List.length_eq_zero_iff]; simpa using h0
     have q1 : (q.rest.toList == []) = true:=by rw [ByteArray.toList_eq,hne]; rfl
     have q1' : (q.rest.toList != []) = false:=by rw [bne,q1]; rfl
     have q2 : q.rest.toList.isEmpty = true:=by rw [ByteArray.toList_eq,hne]; rfl
     have HBF:=Jh hbf
     have H0:=Jh h0
     clear hne hbf h0
     go_wp2_with (first | (refine wpList_nodeVar rfl rfl w2.heap.size rfl ?_) | (refine wpList_storeFresh (w:=w2) rfl _ _ _ rfl w2.heap.size rfl N rfl rfl (infS HNS.out) HNS.out.symm HNO.out ?_; rw [← HW3.out]) | (refine wpList_row rfl 41 _ rfl w2.heap.size rfl 41 N (0,0) _ HN3.out undN rfl (infS HNS.out) ?_) | fail)
     refine HC.out.mono ?_
     rintro e w4 ⟨rfl,hb4⟩
     have hz4 : w4.heap[w.heap.size]? = some (.cells zA 41):=(hb4.block _ (by have:=HS3.out; omega)).trans HZ3.out
     have hn4 : w4.heap[w2.heap.size]? = some (.cells N 41):=(hb4.block _ (by have:=HS3.out; omega)).trans HN3.out
     have hbw4 : Below w.heap.size w w4:=HB3.out.trans (hb4.mono HB3.out.size)
     have hsl4 : SlZ w4 (fun k => w.heap.size + 2 ≤ k ∧ k < w4.heap.size) A c t.l:=HSL3.out.move (fun k hk => ⟨hk.1,Nat.lt_of_lt_of_le hk.2 hb4.size⟩) (fun p hp => World.cell?_of_block (hb4.block _ hp.2))
     obtain ⟨cd,hcd⟩ : ∃ cd : ByteArray,cd = ⟨(codeT t).toArray⟩:=⟨_,rfl⟩
     have hS : S (codeT t) = .string cd:=by rw [hcd]
     rw [hS]
     obtain ⟨ck,hck⟩ : ∃ ck,ck = checkI t:=⟨_,rfl⟩
     rw [← hck]
     have hcdl : cd.data.toList = codeT t:=by rw [hcd]
     have HZ4:=Jh hz4
     have HN4:=Jh hn4
     have HB4:=Jh hbw4
     have HSL4:=Jh hsl4
     have HCK:=Jh hck
     have HCD:=Jh hcdl
     have h2s : w.heap.size + 2 ≤ w2.heap.size:=hs12
     clear hz4 hn4 hbw4 hsl4 hcd hS hb4 q1 q1' q2 hck hcdl x0 x2 f0 f1 f2
     by_cases c1 : ck = 0
     · have p1 : (ck != 0) = false:=by simp [c1]
       by_cases c2 : cd.data.toList = s.data.toList
       · have p2 : (cd.toList == s.toList) = true:=by rw [ByteArray.toList_eq,ByteArray.toList_eq,c2]; simp
         have p2' : (cd.toList != s.toList) = false:=by rw [bne,p2]; rfl
         have hsome : decodeT s = some t:=by
          have e0 : checkI t = 0:=by rw [← HCK.out]; exact c1
          have e9:=HCD.out
          rw [codeT,if_pos e0,c2] at e9
          rw [HDD.out,if_pos ⟨HBF.out,H0.out,e0,e9.symm⟩]
         have HSO:=Jh hsome
         clear hsome c2
         subst c1
         as_aux_lemma =>
         go_wp2_with (first | (refine wpList_row rfl 41 _ rfl w2.heap.size rfl 41 N (0,0) _ HN4.out undN rfl (infS HNS.out) ?_) | (refine wpList_store_row rfl 41 _ _ rfl w.heap.size N rfl rfl 41 zA HZ4.out (infS HNS.out) HNS.out.symm HNO.out ?_) | fail)
         refine bodyPost_ret (v:=.tuple #[.agg N,.int .i64 0]) (results_cell_tmp (p:=2) (u:=3) rfl _ _ w.heap.size 41 N (0,0) _ rfl (setRow_heap _ _ _ _ _ _ HZ4.out) undN rfl (infS HNS.out)) rfl ?_
         unfold DecPostZ
         obtain ⟨e1,e2⟩:=dec_some HSO.out
         rw [e1,e2,HNN.out]
         exact ⟨A,c,rfl,HD.out,slZ_row HSL4.out (by omega) (by omega),dec_row HB4.out _ (Nat.le_refl _) _⟩
       · have p2 : (cd.toList == s.toList) = false:=by rw [beq_eq_false_iff_ne,ByteArray.toList_eq,ByteArray.toList_eq]; exact c2
         have p2' : (cd.toList != s.toList) = true:=by rw [bne,p2]; rfl
         have hno : decodeT s = none:=by
          rw [HDD.out,if_neg (fun h => c2 ?_)]
          rw [HCD.out,codeT,if_pos h.2.2.1,h.2.2.2]
         have HNO2:=Jh hno
         clear hno c2
         subst c1
         as_aux_lemma =>
         go_wp2_with (first | (refine wpList_store_row rfl 41 _ _ rfl w.heap.size zA rfl rfl 41 zA HZ4.out infN rfl (node1 _) ?_) | fail)
         refine bodyPost_ret (v:=.tuple #[.agg zA,.int .i64 6]) (results_cell_tmp (p:=2) (u:=3) rfl _ _ w.heap.size 41 zA (0,0) _ rfl (setRow_heap _ _ _ _ _ _ HZ4.out) undN rfl infN) rfl ?_
         exact dec_badZ HNO2.out (dec_row HB4.out _ (Nat.le_refl _) _)
     · have p1 : (ck != 0) = true:=by simp [c1]
       have hno : decodeT s = none:=by rw [HDD.out,if_neg (fun h => c1 (by rw [HCK.out]; exact h.2.2.1))]
       have HNO2:=Jh hno
       clear hno c1
       as_aux_lemma =>
       go_wp2_with (first | (refine wpList_store_row rfl 41 _ _ rfl w.heap.size zA rfl rfl 41 zA HZ4.out infN rfl (node1 _) ?_) | fail)
       refine bodyPost_ret (v:=.tuple #[.agg zA,.int .i64 6]) (results_cell_tmp (p:=2) (u:=3) rfl _ _ w.heap.size 41 zA (0,0) _ rfl (setRow_heap _ _ _ _ _ _ HZ4.out) undN rfl infN) rfl ?_
       exact dec_badZ HNO2.out (dec_row HB4.out _ (Nat.le_refl _) _)
   · have hne : q.rest.data.toList ≠ []:=by
      intro e
      rw [← List.length_eq_zero_iff] at e
      exact h0 (by simpa using e)
     have q1 : (q.rest.toList == []) = false:=by rw [beq_eq_false_iff_ne,ByteArray.toList_eq]; exact hne
     have q1' : (q.rest.toList != []) = true:=by rw [bne,q1]; rfl
     have q2 : q.rest.toList.isEmpty = false:=by
      rw [ByteArray.toList_eq]
      cases hl : q.rest.data.toList with
      | nil => exact absurd hl hne
      | cons a l => rfl
     have hno : decodeT s = none:=by rw [HDD.out,if_neg (fun h => h0 h.2.1)]
     have HNO2:=Jh hno
     clear hne hbf h0 hno
     as_aux_lemma =>
     go_wp2_with (first | (refine wpList_nodeVar rfl rfl w2.heap.size rfl ?_) | (refine wpList_storeFresh (w:=w2) rfl _ _ _ rfl w2.heap.size rfl N rfl rfl (infS HNS.out) HNS.out.symm HNO.out ?_; rw [← HW3.out]) | (refine wpList_store_row rfl 41 _ _ rfl w.heap.size zA rfl rfl 41 zA HZ3.out infN rfl (node1 _) ?_) | fail)
     refine bodyPost_ret (v:=.tuple #[.agg zA,.int .i64 6]) (results_cell_tmp (p:=2) (u:=3) rfl _ _ w.heap.size 41 zA (0,0) _ rfl (setRow_heap _ _ _ _ _ _ HZ3.out) undN rfl infN) rfl ?_
     exact dec_badZ HNO2.out (dec_row HB3.out _ (Nat.le_refl _) _)
end Go.Proofs.YtelombedjkbckaaGreatDoor
