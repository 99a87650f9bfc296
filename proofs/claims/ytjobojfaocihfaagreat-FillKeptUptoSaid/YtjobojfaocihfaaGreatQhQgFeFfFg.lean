/- sheet.New,by zones. law 28's live: the ids of so many that aren't dead. counterpaneref01.digits. counterpaneref01.Of,Right; counterpaneref06.num. counterpaneref01.Right; counterpaneref06.num. -/
import Derived.Test.YtjobojfaocihfaaGreatIoIpSrQdQeQfRF
import Derived.Test.YtjobojfaocihfaaGreatOdXgOeOcXnOi
import Derived.Test.YtjobojfaocihfaaGreatStSqXaNmVrVsRl
import Derived.Test.YtjobojfaocihfaaGreatNdClPyPmPnPfNw
import Derived.Deep.AppendLies
import Derived.Deep.AppendSrc
import Derived.Test.YtjobojfaocihfaaGreatTw
import Derived.Test.YtjobojfaocihfaaGreatCyMgMhRh
namespace Go.Proofs.YtjobojfaocihfaaGreat
set_option maxRecDepth 100000
set_option maxHeartbeats 4000000
set_option linter.unusedSimpArgs false
set_option linter.unusedVariables false
open Go Go.RowKit Go.Shelf Go.Maps
theorem ZAx.zone {W : World} {p : Nat} {L : IL} {Z Z' : Nat → Prop} (h : ZAx W p L Z) (hz : ∀ b,Z b → Z' b) : ZAx W p L Z':=by
 obtain ⟨Ai,ci,Al,cl,h,hp,hi,hl⟩:=h
 exact ⟨Ai,ci,Al,cl,h,hz _ hp,fun k e => hz k (hi k e),fun k e => hz k (hl k e)⟩
theorem RNew.axZ {w wr : World} {p : Nat} {l : List Ik} (h : RNew w p l l.length wr) : ZAx wr p (allL l) (fun b => p ≤ b ∧ b < wr.heap.size) ∧ Below p w wr:=by
 obtain ⟨Ai,ci,Al,cl,h1,h2,h3,-,hb,-⟩:=h
 have e1 : (allL l).length = l.length:=by simp [allL]
 rw [List.take_length] at h2
 refine ⟨⟨Ai,ci,Al,cl,⟨?_,?_,?_⟩,⟨Nat.le_refl _,(Jg h1).1⟩,fun k e => ?_,fun k e => ?_⟩,hb⟩
 · rw [e1]; exact h1
 · rw [e1,allL_ids]; exact own_base0 h2
 · have e2 : (allL l).lives = List.replicate l.length (.bool true):=by
    unfold allL IL.lives
    rw [List.map_map,← List.map_const]
    rfl
   rw [e1,e2]; exact own_base0 h3
 · rw [e1] at e
   obtain ⟨h4,cur,h5⟩:=own_blk h2 k e
   exact ⟨by omega,(Jg h5).1⟩
 · rw [e1] at e
   obtain ⟨h4,cur,h5⟩:=own_blk h3 k e
   exact ⟨by omega,(Jg h5).1⟩
structure ShZ (W : World) (lo s p q ce na n : Nat) (L M : IL) (C : List (Ad × Ct)) (Zr Zc Zs : Nat → Prop) : Prop where
 own : W.heap[s]? = some (.cells #[.pointer (some ⟨p,0,none⟩),.pointer (some ⟨q,0,none⟩),.pointer (some ⟨ce,0,none⟩),.pointer (some ⟨na,0,none⟩)] 66)
 rows : ZAx W p L Zr
 cols : ZAx W q M Zc
 cells : StZ W ce n C Zs
 names : W.heap[na]? = some (.cells #[.map none] 153)
 los : lo ≤ s
 loz : ∀ b,Zr b ∨ Zc b ∨ Zs b → lo ≤ b
 sn : ¬ Zr s ∧ ¬ Zc s ∧ ¬ Zs s
 dis : ∀ b,(Zr b → ¬ Zc b ∧ ¬ Zs b) ∧ (Zc b → ¬ Zs b)
 lt : (∀ b,Zr b ∨ Zc b ∨ b = s ∨ b = na → b < W.heap.size) ∧ (¬ Zr na ∧ ¬ Zc na ∧ ¬ Zs na) ∧ lo ≤ na
theorem freshZ_c (w : World) (n : Nat) (hn : n ≤ 1000) : Calls Tryz.prog 63 #[.int .i64 n] w fun e w' => ∃ p,e = .returned (.pointer (some ⟨p,0,none⟩)) ∧ ZAx w' p (allL (freshL n)) (fun b => w.heap.size ≤ b ∧ b < w'.heap.size) ∧ Below w.heap.size w w':=by
 have hnew:=fun (w : World) (A : Option Addr) (c : Nat) (hs : IkSl w w.heap.size A c (freshL n)) => axNew_c w (freshL n) (freshL_ok hn) (freshL_nz n) (freshL_nodup n) (by rw [freshL_len]; exact hn) A c hs
 have HNEW:=Jh hnew
 obtain ⟨ti,hti,hz0,hz1,hz2⟩:=info_parts infoIk
 have HTI:=Jh (And.intro hti (And.intro hz0 (And.intro hz1 hz2)))
 clear hnew hti hz0 hz1 hz2
 have q1 : ¬ (n : Int) < 0:=by omega
 have q2 : ¬ (1000 : Int) < n:=by omega
 have q3 : (0 : Int) ≤ n:=by omega
 have q4 : (n : Int) ≤ 1000:=by omega
 go_enter Tryz.func63,Tryz.ntmps63
 go_wp2
 clear q1 q2 q3 q4
 go_loopw [3,4,8] (fun s v i wr => ∃ j : Nat,j ≤ n ∧ i = .int .i64 j ∧ ∃ A c,s = .slice A j c ∧ Hid (wr.ownsRow w.heap.size 41 2 (.slice A j c) j (ikCells (freshL j)) ∧ Below w.heap.size w wr)) (fun _ _ i _ => n - (intOf i).toNat)
 case atStart => exact ⟨0,Nat.zero_le _,rfl,none,0,rfl,Jh ⟨⟨rfl,.inl ⟨rfl,rfl⟩⟩,Below.refl _ _⟩⟩
 case round =>
  obtain ⟨j,hj,rfl,A,c,rfl,hR⟩:=hrel
  by_cases hlt : j < n
  · have hj1 : (j : Int) < n:=by omega
    have hcc : j ≤ c ∧ c ≤ 9223372036854775807:=by obtain ⟨_,_,e,h1,h2⟩:=own_parts hR.out.1; cases e; exact ⟨h1,h2⟩
    obtain ⟨hc1,hc2⟩:=hcc
    have hw : wrap64 ((j : Int) + 1) = (j : Int) + 1:=by unfold wrap64; omega
    have hj0 : (0 : Int) ≤ j:=by omega
    go_wp2_with (at_builtin; refine wpList_append_lies _ rfl (.tmp 11) (.tmp 15) 30 rfl w.heap.size 41 ti _ 2 16 undIks HTI.out.1 HTI.out.2.1 HTI.out.2.2.1 HTI.out.2.2.2 rfl (by decide) (.slice A j c) j (ikCells (freshL j)) rfl (hR.out.1.alloc _) ⟨wr.heap.size,0,none⟩ 1 1 [.int .i64 0,.int .i64 ((j : Int) + 1)] rfl rfl (World.news_of_block (heap_alloc_new wr (.cells #[.int .i64 0,.int .i64 ((j : Int) + 1)] 41))) (by intro u hu; simp only [List.mem_cons,List.not_mem_nil,or_false] at hu; rcases hu with rfl | rfl <;> rfl) (by decide) (by unfold maxLen; omega) (by omega) (by rw [World.size_alloc]; have:=hR.out.2.size; omega) (wr.heap.size + 1) (by rw [World.size_alloc]) ?_; intro g3 cap3 w4 hown4 hgrow hat hlt4; have HO4:=Jh hown4; have HG4:=Jh hgrow; clear hown4 hgrow hat hlt4)
    go_roundw
    case measure => simp [intOf]; omega
    case rel =>
     refine ⟨j + 1,by omega,by go_num,some ⟨g3,0,none⟩,cap3,rfl,Jh ⟨?_,?_⟩⟩
     · rw [freshL_succ,ikCells_snoc]
       exact HO4.out
     · have hb:=hR.out.2
       exact (hb.alloc hb.size _).grown HG4.out (by rw [World.size_alloc]; have:=hb.size; omega) (fun k e => (hR.out.1.lt k e).1)
  · obtain rfl : j = n:=by omega
    have HX:=Jh (HNEW.out wr A c (IkSl.of (base:=w.heap.size) (by rw [freshL_len]; exact hR.out.1)))
    have hlen:=freshL_len j
    rw [hlen] at HX
    go_wp2_with (go_at_call 23; refine HX.out.mono ?_; rintro e w5 ⟨rfl,hN5⟩; have HN5:=Jh hN5; clear hN5)
    first | go_ret | go_ret2
    have hx:=RNew.axZ (l:=freshL j) (by rw [hlen]; exact HN5.out)
    have hb:=hR.out.2
    exact ⟨wr.heap.size,rfl,hx.1.zone (fun b h => ⟨Nat.le_trans hb.size h.1,h.2⟩),hb.trans (hx.2.mono hb.size)⟩
theorem sheetNewZ_c (w : World) (n m : Nat) (hn : n ≤ 1000) (hm : m ≤ 1000) : Calls Tryz.prog 27 #[.int .i64 n,.int .i64 m] w fun e w' => ∃ s p q ce na Zr Zc Zs,e = .returned (.pointer (some ⟨s,0,none⟩)) ∧ ShZ w' w.heap.size s p q ce na 0 (allL (freshL n)) (allL (freshL m)) [] Zr Zc Zs ∧ Below w.heap.size w w':=by
 have HF1:=Jh (freshZ_c w n hn)
 have HF2:=Jh (fun (w : World) => freshZ_c w m hm)
 have HC:=Jh cellsNew_c
 have HN:=Jh namesNew_c
 go_enter Tryz.func27,Tryz.ntmps27
 go_upto_region 1 with (fail)
 go_wp2_with (first | (go_at_call_of 63 (Value.int IntKind.i64 (n : Int)); refine HF1.out.mono ?_; rintro e w1 ⟨p,rfl,h1⟩; have HP:=Jh h1; clear h1) | (go_at_call_of 63 (Value.int IntKind.i64 (m : Int)); refine (HF2.out _).mono ?_; rintro e w2 ⟨q,rfl,h2⟩; have HQ:=Jh h2; clear h2) | (go_at_call 64; refine (HC.out _).mono ?_; rintro e w3 ⟨rfl,h3⟩; have H3:=Jh h3; clear h3) | (go_at_call 65; refine (HN.out _).mono ?_; rintro e w4 ⟨rfl,h4⟩; have H4:=Jh h4; clear h4))
 first | go_ret | go_ret2
 obtain ⟨hax,hb1⟩:=HP.out
 obtain ⟨hbx,hb2⟩:=HQ.out
 have hb3 : Below w2.heap.size w2 w3:=by rw [H3.out]; exact (Below.refl _ w2).alloc (Nat.le_refl _) _
 have hb4 : Below w3.heap.size w3 w4:=by rw [H4.out]; exact (Below.refl _ w3).alloc (Nat.le_refl _) _
 have hz3 : w3.heap.size = w2.heap.size + 1:=by rw [H3.out,World.size_alloc]
 have hz4 : w4.heap.size = w3.heap.size + 1:=by rw [H4.out,World.size_alloc]
 obtain ⟨SV,hSV⟩ : ∃ SV,SV = Obj.cells #[Value.pointer (some ⟨p,0,none⟩),.pointer (some ⟨q,0,none⟩),.pointer (some ⟨w2.heap.size,0,none⟩),.pointer (some ⟨w3.heap.size,0,none⟩)] 66:=⟨_,rfl⟩
 have hb5 : Below w4.heap.size w4 (w4.alloc SV):=(Below.refl _ w4).alloc (Nat.le_refl _) _
 have s1:=hb1.size
 have s2:=hb2.size
 have hc3 : w3.heap[w2.heap.size]? = some (.cells #[.map none] 104):=by rw [H3.out]; exact heap_alloc_new _ _
 have hn4 : w4.heap[w3.heap.size]? = some (.cells #[.map none] 153):=by rw [H4.out]; exact heap_alloc_new _ _
 have hfin : Below w.heap.size w (w4.alloc SV):=(((hb1.trans (hb2.mono s1)).trans (hb3.mono (by omega))).trans (hb4.mono (by omega))).trans (hb5.mono (by omega))
 refine ⟨w4.heap.size,p,q,w2.heap.size,w3.heap.size,fun b => w.heap.size ≤ b ∧ b < w1.heap.size,fun b => w1.heap.size ≤ b ∧ b < w2.heap.size,fun b => b = w2.heap.size,rfl,?_,?_⟩
 · change ShZ (w4.alloc (Obj.cells #[Value.pointer (some ⟨p,0,none⟩),.pointer (some ⟨q,0,none⟩),.pointer (some ⟨w2.heap.size,0,none⟩),.pointer (some ⟨w3.heap.size,0,none⟩)] 66)) _ _ _ _ _ _ _ _ _ _ _ _ _
   rw [← hSV]
   have hkb : ∀ {a b : World},Below a.heap.size a b → KeepZ (fun _ => False) a b:=fun h => KeepZ.of h
   refine ⟨?_,?_,?_,?_,?_,?_,?_,?_,?_,?_⟩
   · rw [← hSV]; exact heap_alloc_new _ _
   · exact (((hax.keep (hkb hb2) (fun _ _ h => h)).keep (hkb hb3) (fun _ _ h => h)).keep (hkb hb4) (fun _ _ h => h)).keep (hkb hb5) (fun _ _ h => h)
   · exact ((hbx.keep (hkb hb3) (fun _ _ h => h)).keep (hkb hb4) (fun _ _ h => h)).keep (hkb hb5) (fun _ _ h => h)
   · refine ⟨none,.map [],fun _ => False,⟨?_,rfl⟩,Rep.empty _ _,rfl,fun b e => by simp at e,fun b h => h.elim⟩
     exact (hb5.block _ (by have:=(Jg hc3).1; omega)).trans ((hb4.block _ (Jg hc3).1).trans hc3)
   · exact (hb5.block _ (Jg hn4).1).trans hn4
   · omega
   · rintro b (h | h | h) <;> (try dsimp only at *) <;> omega
   · refine ⟨fun h => ?_,fun h => ?_,fun h => ?_⟩ <;> (try dsimp only at *) <;> omega
   · intro b
     refine ⟨fun h => ⟨fun h' => ?_,fun h' => ?_⟩,fun h h' => ?_⟩ <;> (try dsimp only at *) <;> omega
   · rw [World.size_alloc]
     refine ⟨fun b h => ?_,?_,?_⟩
     · rcases h with h | h | h | h <;> (try dsimp only at *) <;> omega
     · refine ⟨?_,?_,?_⟩ <;> (try dsimp only at *) <;> omega
     · omega
 · rw [hSV] at hfin; exact hfin
end Go.Proofs.YtjobojfaocihfaaGreat
namespace Go.Proofs.YtjobojfaocihfaaGreat
set_option maxRecDepth 100000
set_option maxHeartbeats 4000000
set_option linter.unusedSimpArgs false
set_option linter.unusedVariables false
open Go Go.RowKit Go.Shelf Go.Maps
def liveL (n : Nat) (dead : List Ik) : List Ik:=(freshL n).filter fun y => decide (y ∉ dead)
theorem liveL_succ (n : Nat) (dead : List Ik) : liveL (n + 1) dead = liveL n dead ++ if (⟨0,((n : Int) + 1)⟩ : Ik) ∈ dead then [] else [⟨0,((n : Int) + 1)⟩]:=by
 unfold liveL
 rw [freshL_succ,List.filter_append]
 congr 1
 by_cases h : (⟨0,((n : Int) + 1)⟩ : Ik) ∈ dead
 · rw [if_pos h,List.filter_cons_of_neg (by simpa using h)]; rfl
 · rw [if_neg h,List.filter_cons_of_pos (by simpa using h)]; rfl
theorem liveL_len (n : Nat) (dead : List Ik) : (liveL n dead).length ≤ n:=by
 have:=List.length_filter_le (fun y => decide (y ∉ dead)) (freshL n)
 rw [freshL_len] at this
 exact this
theorem live_c {w : World} {base : Nat} {A : Option Addr} {c : Nat} {dead : List Ik} (n : Nat) (hn : n ≤ 1000) (h : w.ownsRow base 41 2 (.slice A dead.length c) dead.length (ikCells dead)) (hdl : dead.length ≤ 100000) :
 Calls Tryz.prog 33 #[.int .i64 n,.slice A dead.length c] w fun e w' => ∃ A' c',e = .returned (.slice A' (liveL n dead).length c') ∧ w'.ownsRow w.heap.size 41 2 (.slice A' (liveL n dead).length c') (liveL n dead).length (ikCells (liveL n dead)) ∧ Below w.heap.size w w':=by
 obtain ⟨m,hm⟩ : ∃ m,m = dead.length:=⟨_,rfl⟩
 have hcap : m ≤ c ∧ c ≤ 9223372036854775807:=by obtain ⟨_,_,e,h1,h2⟩:=own_parts h; cases e; rw [hm]; exact ⟨h1,h2⟩
 obtain ⟨hc1,hc2⟩:=hcap
 have hrow : ∀ (wx : World) (d : Below w.heap.size w wx) (j : Nat) (hj : j < dead.length),∃ q,A = some ⟨q,0,none⟩ ∧ wx.rangeAt q (j * 2) [.int .i64 dead[j].a,.int .i64 dead[j].n]:=fun wx d j hj => by
  obtain ⟨q,h1,h2⟩:=ik_row_at h hj
  obtain ⟨-,cur,h3⟩:=own_blk h q (by rw [h1]; rfl)
  have hq:=(Jg h3).1
  rw [Nat.zero_add] at h2
  exact ⟨q,h1,fun i v hv => (World.cell?_of_block (a:=⟨q,j * 2 + i,none⟩) (d.block q hq)).trans (h2 i v hv)⟩
 have HROW:=Jh hrow
 have HM:=Jh hm
 have hm2 : m ≤ 100000:=by rw [hm]; exact hdl
 have HIA:=Jh (show ∀ a b : Value,(Tryz.prog.info? 41).map (·.size) = some (#[a,b] : Array Value).size from fun _ _ => infIk)
 have HIL:=Jh (show ∀ a b : Value,(Tryz.prog.info? 41).map (·.size) = some [a,b].length from fun _ _ => infIk)
 obtain ⟨ti,hti,hz0,hz1,hz2⟩:=info_parts infoIk
 have HTI:=Jh (And.intro hti (And.intro hz0 (And.intro hz1 hz2)))
 rw [← hm]
 clear h hdl hrow hm hti hz0 hz1 hz2
 go_enter Tryz.func33,Tryz.ntmps33
 go_wp2
 go_loopw [5,6,7,8,10,12] (fun s v b o x i wr => ∃ j : Nat,j ≤ n ∧ i = .int .i64 j ∧ ∃ A' c',s = .slice A' (liveL j dead).length c' ∧ Hid (wr.ownsRow w.heap.size 41 2 (.slice A' (liveL j dead).length c') (liveL j dead).length (ikCells (liveL j dead)) ∧ Below w.heap.size w wr)) (fun _ _ _ _ _ i _ => n - (intOf i).toNat)
 case atStart => exact ⟨0,Nat.zero_le _,rfl,none,0,rfl,Jh ⟨⟨rfl,.inl ⟨rfl,rfl⟩⟩,Below.refl _ _⟩⟩
 case round =>
  obtain ⟨j,hj,rfl,A',c',rfl,hR⟩:=hrel
  by_cases hlt : j < n
  · have hj1 : (j : Int) < n:=by omega
    have hj0 : (0 : Int) ≤ j:=by omega
    have hw : wrap64 ((j : Int) + 1) = (j : Int) + 1:=by unfold wrap64; omega
    obtain ⟨g7,hg7⟩ : ∃ g,g = wr.heap.size:=⟨_,rfl⟩
    obtain ⟨ll,hll⟩ : ∃ ll,ll = (liveL j dead).length:=⟨_,rfl⟩
    have hll2 : ll ≤ j:=by rw [hll]; exact liveL_len j dead
    have HLL:=Jh hll
    rw [← hll]
    clear hll
    go_upto_region 6 with (first | (refine wpList_store_row rfl 41 _ _ rfl wr.heap.size #[.int .i64 0,.int .i64 ((j : Int) + 1)] rfl rfl 41 #[.int .i64 0,.int .i64 0] (heap_alloc_new _ _) (HIA.out _ _) rfl (by kernel_rfl) ?_) | fail)
    obtain ⟨w2,hw2⟩ : ∃ w2,w2 = (wr.alloc (.cells #[.int .i64 0,.int .i64 0] 41)).setRow wr.heap.size #[.int .i64 0,.int .i64 ((j : Int) + 1)]:=⟨_,rfl⟩
    change Code.wp _ _ _ _ ((wr.alloc (.cells #[.int .i64 0,.int .i64 0] 41)).setRow wr.heap.size #[.int .i64 0,.int .i64 ((j : Int) + 1)])
    rw [← hw2,← hg7]
    have hb2 : Below wr.heap.size wr w2:=by rw [hw2]; exact below_row ((Below.refl _ wr).alloc (Nat.le_refl _) _) (Nat.le_refl _) _
    have hk2 : w2.heap[g7]? = some (.cells #[.int .i64 0,.int .i64 ((j : Int) + 1)] 41):=by rw [hw2,hg7]; exact setRow_heap _ _ _ _ _ _ (heap_alloc_new _ _)
    have hK2 : Hid (Below wr.heap.size wr w2 ∧ w2.heap[g7]? = some (.cells #[.int .i64 0,.int .i64 ((j : Int) + 1)] 41)):=Jh ⟨hb2,hk2⟩
    have HG7:=Jh hg7
    clear hw2 hb2 hk2 hg7
    go_wp2
    go_loopw [8,10,20] (fun b x i wr => ∃ k : Nat,k ≤ m ∧ i = .int .i64 k ∧ ∃ f,b = .bool f ∧ Hid (f = decide ((⟨0,((j : Int) + 1)⟩ : Ik) ∉ dead.take k) ∧ Below w2.heap.size w2 wr)) (fun _ _ i _ => m - (intOf i).toNat)
    case atStart => exact ⟨0,Nat.zero_le _,rfl,true,rfl,Jh ⟨by simp,Below.refl _ _⟩⟩
    case round =>
     obtain ⟨k,hk,rfl,f,rfl,hI⟩:=hrel
     by_cases hkm : k < m
     · have hkd : k < dead.length:=by rw [← HM.out]; exact hkm
       have hbw : Below w.heap.size w wr:=(hR.out.2.trans (hK2.out.1.mono hR.out.2.size)).trans (hI.out.2.mono (Nat.le_trans hR.out.2.size hK2.out.1.size))
       obtain ⟨q,hA,hrg⟩:=HROW.out wr hbw k hkd
       subst hA
       have hk1 : (k : Int) < m:=by omega
       have hk0 : (0 : Int) ≤ k:=by omega
       obtain ⟨ya,hya⟩ : ∃ y,y = dead[k].a:=⟨_,rfl⟩
       obtain ⟨yn,hyn⟩ : ∃ y,y = dead[k].n:=⟨_,rfl⟩
       rw [← hya,← hyn] at hrg
       have HY:=Jh (And.intro hya hyn)
       have hze:=fun w => eqI w ya yn 0 ((j : Int) + 1)
       have HRG:=Jh hrg
       have hk7 : ∀ o,((wr.alloc o).setRow wr.heap.size #[.int .i64 ya,.int .i64 yn]).heap[g7]? = some (.cells #[.int .i64 0,.int .i64 ((j : Int) + 1)] 41):=fun o => by
        have h1:=(hI.out.2.block g7 (Jg hK2.out.2).1).trans hK2.out.2
        have h2:=(Jg h1).1
        exact (setRow_other _ _ _ _ (by omega)).trans ((heapOld _ _ _ h2).trans h1)
       have HK7:=Jh hk7
       have hnext : decide ((⟨0,((j : Int) + 1)⟩ : Ik) ∉ dead.take (k + 1)) = (decide ((⟨0,((j : Int) + 1)⟩ : Ik) ∉ dead.take k) && !decide (ya = 0 ∧ yn = (j : Int) + 1)):=by
        rw [List.take_succ_eq_append_getElem hkd,hya,hyn]
        have e : (dead[k] = (⟨0,((j : Int) + 1)⟩ : Ik)) ↔ (dead[k].a = 0 ∧ dead[k].n = (j : Int) + 1):=by
         constructor
         · intro h; rw [h]; exact ⟨rfl,rfl⟩
         · rintro ⟨h1,h2⟩
           have : dead[k] = ⟨dead[k].a,dead[k].n⟩:=rfl
           rw [this,h1,h2]
        rw [Bool.eq_iff_iff]
        simp only [decide_eq_true_eq,Bool.and_eq_true,Bool.not_eq_true',decide_eq_false_iff_not,List.mem_append,List.mem_singleton,not_or]
        exact and_congr_right (fun _ => not_congr ⟨fun h => e.1 h.symm,fun h => (e.2 h).symm⟩)
       have HNX:=Jh hnext
       clear hya hyn hrg hk7 hnext
       cases f with
       | false =>
        go_wp2_with (first | (refine wpList_mid rfl 41 _ rfl q (k * 2) rfl [.int .i64 ya,.int .i64 yn] _ HRG.out ikUnd rfl (HIL.out _ _) ?_) | (refine wpList_store_row rfl 41 _ _ rfl wr.heap.size #[.int .i64 ya,.int .i64 yn] rfl rfl 41 #[.int .i64 0,.int .i64 0] (heap_alloc_new _ _) (HIA.out _ _) rfl (by kernel_rfl) ?_) | fail)
        go_roundw
        case measure => simp [intOf]; omega
        case rel => exact ⟨k + 1,by omega,by go_num,false,rfl,Jh ⟨by rw [HNX.out,← hI.out.1]; rfl,below_row (hI.out.2.alloc hI.out.2.size _) hI.out.2.size _⟩⟩
       | true =>
        by_cases he : ya = 0 ∧ yn = (j : Int) + 1
        · rw [decide_eq_true he] at hze
          have HE:=Jh he
          clear he
          go_wp2_with (first | (refine wpList_mid rfl 41 _ rfl q (k * 2) rfl [.int .i64 ya,.int .i64 yn] _ HRG.out ikUnd rfl (HIL.out _ _) ?_) | (refine wpList_store_row rfl 41 _ _ rfl wr.heap.size #[.int .i64 ya,.int .i64 yn] rfl rfl 41 #[.int .i64 0,.int .i64 0] (heap_alloc_new _ _) (HIA.out _ _) rfl (by kernel_rfl) ?_) | (refine wpList_row rfl 41 _ rfl wr.heap.size rfl 41 #[.int .i64 ya,.int .i64 yn] (0,0) _ (setRow_heap _ _ _ _ _ _ (heap_alloc_new _ _)) ikUnd rfl (HIA.out _ _) ?_) | (refine wpList_row rfl 41 _ rfl g7 rfl 41 #[.int .i64 0,.int .i64 ((j : Int) + 1)] (0,0) _ (HK7.out _) ikUnd rfl (HIA.out _ _) ?_) | fail)
          go_roundw
          case measure => simp [intOf]; omega
          case rel => exact ⟨k + 1,by omega,by go_num,false,by simp,Jh ⟨by rw [HNX.out,decide_eq_true HE.out]; simp,below_row (hI.out.2.alloc hI.out.2.size _) hI.out.2.size _⟩⟩
        · rw [decide_eq_false he] at hze
          have HE:=Jh he
          clear he
          go_wp2_with (first | (refine wpList_mid rfl 41 _ rfl q (k * 2) rfl [.int .i64 ya,.int .i64 yn] _ HRG.out ikUnd rfl (HIL.out _ _) ?_) | (refine wpList_store_row rfl 41 _ _ rfl wr.heap.size #[.int .i64 ya,.int .i64 yn] rfl rfl 41 #[.int .i64 0,.int .i64 0] (heap_alloc_new _ _) (HIA.out _ _) rfl (by kernel_rfl) ?_) | (refine wpList_row rfl 41 _ rfl wr.heap.size rfl 41 #[.int .i64 ya,.int .i64 yn] (0,0) _ (setRow_heap _ _ _ _ _ _ (heap_alloc_new _ _)) ikUnd rfl (HIA.out _ _) ?_) | (refine wpList_row rfl 41 _ rfl g7 rfl 41 #[.int .i64 0,.int .i64 ((j : Int) + 1)] (0,0) _ (HK7.out _) ikUnd rfl (HIA.out _ _) ?_) | fail)
          go_roundw
          case measure => simp [intOf]; omega
          case rel => exact ⟨k + 1,by omega,by go_num,true,by simp,Jh ⟨by rw [HNX.out,decide_eq_false HE.out,← hI.out.1]; rfl,below_row (hI.out.2.alloc hI.out.2.size _) hI.out.2.size _⟩⟩
     · obtain rfl : k = m:=by omega
       have htk : dead.take k = dead:=by rw [HM.out]; exact List.take_length
       have hmem : f = decide ((⟨0,((j : Int) + 1)⟩ : Ik) ∉ dead):=by rw [hI.out.1,htk]
       have HF:=Jh hmem
       have hbI:=hI.out.2
       have hbw : Below w.heap.size w wr:=(hR.out.2.trans (hK2.out.1.mono hR.out.2.size)).trans (hbI.mono (Nat.le_trans hR.out.2.size hK2.out.1.size))
       have hrow2 : wr.ownsRow w.heap.size 41 2 (.slice A' ll c') ll (ikCells (liveL j dead)):=by
        rw [HLL.out]
        refine own_keep hR.out.1 (fun k' e => ?_)
        obtain ⟨-,cur,h3⟩:=own_blk hR.out.1 k' e
        have hq:=(Jg h3).1
        exact (hbI.block k' (Nat.lt_of_lt_of_le hq hK2.out.1.size)).trans (hK2.out.1.block k' hq)
       have hk7 : wr.heap[g7]? = some (.cells #[.int .i64 0,.int .i64 ((j : Int) + 1)] 41):=(hbI.block g7 (Jg hK2.out.2).1).trans hK2.out.2
       have HBW:=Jh hbw
       have HROW2:=Jh hrow2
       have HK7:=Jh hk7
       have hcc : ll ≤ c' ∧ c' ≤ 9223372036854775807:=by obtain ⟨_,_,e,h1,h2⟩:=own_parts hrow2; cases e; exact ⟨h1,h2⟩
       obtain ⟨hc3,hc4⟩:=hcc
       clear hmem hbI hbw hrow2 hk7 htk
       cases f with
       | false =>
        have hin : (⟨0,((j : Int) + 1)⟩ : Ik) ∈ dead:=by have:=HF.out; simpa using this.symm
        go_wp2
        go_roundw
        case measure => simp [intOf]; omega
        case rel =>
         refine ⟨j + 1,by omega,by go_num,A',c',?_,Jh ⟨?_,HBW.out⟩⟩
         · rw [liveL_succ,if_pos hin,List.append_nil,HLL.out]
         · rw [liveL_succ,if_pos hin,List.append_nil,← HLL.out]; exact HROW2.out
       | true =>
        have hin : ¬ (⟨0,((j : Int) + 1)⟩ : Ik) ∈ dead:=by have:=HF.out; simpa using this.symm
        have HIN:=Jh hin
        clear hin
        go_wp2_with (first | (refine wpList_row rfl 41 _ rfl g7 rfl 41 #[.int .i64 0,.int .i64 ((j : Int) + 1)] (0,0) _ HK7.out ikUnd rfl (HIA.out _ _) ?_) | (at_builtin; refine wpList_append_lies _ rfl (.tmp 32) (.tmp 34) 30 rfl w.heap.size 41 ti _ 2 16 undIks HTI.out.1 HTI.out.2.1 HTI.out.2.2.1 HTI.out.2.2.2 rfl (by decide) (.slice A' ll c') ll (ikCells (liveL j dead)) rfl (HROW2.out.alloc _) ⟨wr.heap.size,0,none⟩ 1 1 [.int .i64 0,.int .i64 ((j : Int) + 1)] rfl rfl (World.news_of_block (heap_alloc_new wr (.cells #[.int .i64 0,.int .i64 ((j : Int) + 1)] 41))) (by intro u hu; simp only [List.mem_cons,List.not_mem_nil,or_false] at hu; rcases hu with rfl | rfl <;> rfl) (by decide) (by unfold maxLen; omega) (by omega) (by rw [World.size_alloc]; have:=HBW.out.size; omega) (wr.heap.size + 1) (by rw [World.size_alloc]) ?_; intro g3 cap3 w4 hown4 hgrow hat hlt4; have HO4:=Jh hown4; have HG4:=Jh hgrow; clear hown4 hgrow hat hlt4))
        go_roundw
        case measure => simp [intOf]; omega
        case rel =>
         refine ⟨j + 1,by omega,by go_num,some ⟨g3,0,none⟩,cap3,?_,Jh ⟨?_,?_⟩⟩
         · rw [liveL_succ,if_neg HIN.out,List.length_append,← HLL.out]; rfl
         · rw [liveL_succ,if_neg HIN.out,List.length_append,← HLL.out,ikCells_snoc]; exact HO4.out
         · have hb:=HBW.out
           exact (hb.alloc hb.size _).grown HG4.out (by rw [World.size_alloc]; have:=hb.size; omega) (fun k e => (HROW2.out.lt k e).1)
  · obtain rfl : j = n:=by omega
    go_wp2
    first | go_ret | go_ret2
    exact ⟨A',c',rfl,hR.out⟩
end Go.Proofs.YtjobojfaocihfaaGreat
namespace Go.Proofs.YtjobojfaocihfaaGreat
set_option maxRecDepth 100000
set_option maxHeartbeats 2000000
open Go.RowKit Go.Shelf
def digs0 (m : Nat) : Nat:=if m = 0 then 0 else digs m
theorem digs0_step {m : Nat} (h : m ≠ 0) : digs0 m = 1 + digs0 (m / 10):=by
 unfold digs0
 rw [if_neg h]
 by_cases h1 : m < 10
 · rw [digs_small h1,if_pos (by omega)]
 · rw [digs_step (by omega),if_neg (by omega)]; omega
theorem digs0_le (u : Nat) (h : u ≤ 9223372036854775808) : digs0 u ≤ 19:=by
 unfold digs0
 split
 · omega
 · exact digs_le 19 u (by omega) (by omega)
def Out (B : Nat) (wr : World) (v : Value) (L : Nat) : Prop:=(L = 0 ∧ v = .slice none 0 0) ∨ (0 < L ∧ ∃ g cap xs,v = .slice (some ⟨g,0,none⟩) L cap ∧ wr.ownsRow B 3 1 v L xs ∧ ∀ u ∈ xs,u.oneCell' = true)
theorem infoI : (Tryz.prog.info? 3).map (fun i => (i.zero,i.size,i.bytes)) = some (some (.int .i64 0),1,8):=by kernel_rfl
theorem undIs : Tryz.prog.underlying 127 = some (.slice 3):=by kernel_rfl
theorem ownsRow_len {w : World} {base : Nat} {e : TypeId} {v : Value} {n : Nat} {xs : List Value} (h : w.ownsRow base e 1 v n xs) : xs.length = n:=by have:=h.1; omega
theorem fresh_row {B : Nat} {wr : World} (hB : B ≤ wr.heap.size) (d : Int) (T : TypeId) : (wr.alloc (.cells #[.int .i64 d] T)).ownsRow B T 1 (.slice (some ⟨wr.heap.size,0,none⟩) 1 1) 1 [.int .i64 d] :=
 ⟨rfl,.inr ⟨wr.heap.size,1,#[.int .i64 d],rfl,hB,World.alloc_heap_new _ _,Nat.le_refl _,by unfold maxLen; omega,rfl,rfl⟩⟩
theorem old_cell {B : Nat} {wr : World} {T : TypeId} {g L cap : Nat} {xs : List Value} (h : wr.ownsRow B T 1 (.slice (some ⟨g,0,none⟩) L cap) L xs) (o : Obj) (j : Nat) (u : Value) (hu : xs[j]? = some u) : (wr.alloc o).cell? ((⟨g,0,none⟩ : Addr).add j) = some u:=by
 have e : (⟨g,0,none⟩ : Addr).add j = ⟨g,j,none⟩:=by unfold Addr.add; split <;> simp_all
 rw [e]
 exact own_cell (h.alloc o) rfl j u hu
theorem wpList_append_room0 {P : Program} {ops : Array Oper} {rest : List Oper} {o : Oper} {a : Act} {w : World} {Q : Exit → Act → World → Prop} (hgd : o.guard = none) (s x : Operand) (t : TypeId) (ho : o.op = .call { callee := .builtin .append, args := #[s, x], argTypes := #[t, t] })
 (e : TypeId) (i : TypeInfo) (ht : P.underlying t = some (.slice e)) (hi : P.info? e = some i) (b sLen sCap : Nat) (hs : a.eval s = .slice (some ⟨b,0,none⟩) sLen sCap) (hx : a.eval x = .slice none 0 0) (hroom : sLen ≤ sCap)
 (h : wpList P ops Q rest (a.put o.dst (.slice (some ⟨b,0,none⟩) sLen sCap)) w) : wpList P ops Q (o :: rest) a w :=
 wpList_plain hgd fun _ hK => by
  have hr:=run_append_room_src (P:=P) w t t o.type e i ht hi b 0 sLen sCap (.slice none 0 0) 0 [] (Src.ofNil w ht 0) hroom (fun j hj => by cases hj) (fun j hj => by cases hj)
  unfold Oper.wp execOp
  simp only [ho,resolve,invoke,builtin,Sem.run_bind,Sem.run_pure,Result.andThen_ok,List.map_toArray,List.map_cons,List.map_nil,hs,hx,hr]
  exact hK _ _ h
theorem one_cons {k : IntKind} {d : Int} {xs : List Value} (h : ∀ u ∈ xs,u.oneCell' = true) : ∀ u ∈ [Value.int k d] ++ xs,u.oneCell' = true:=by
 intro u hu
 rcases List.mem_append.1 hu with hu | hu
 · rw [List.mem_singleton] at hu; subst hu; rfl
 · exact h u hu
theorem rdigits_pos (u : Nat) (hu : u ≤ 9223372036854775807) (w : World) :
 Calls Tryz.prog 172 #[.int .i64 ((u : Nat))] w fun e w' => ∃ A cap,e = .returned (.slice A (digs0 u) cap) ∧ Below w.heap.size w w':=by
 obtain ⟨ti,hti,hz0,hz1,hz2⟩:=info_parts infoI
 have hdu:=digs0_le u (by omega)
 go_enter Tryz.func172,Tryz.ntmps172
 go_wp2
 go_loopw [0,3] (fun nv v wr => ∃ (m L : Nat),nv = .int .i64 ((m : Nat)) ∧ m ≤ 9223372036854775807 ∧ Hid (L + digs0 m = digs0 u) ∧ Out w.heap.size wr v L ∧ Hid (Below w.heap.size w wr)) (fun nv _ _ => (intOf nv).natAbs)
 case atStart => exact ⟨u,0,rfl,hu,Jh (by omega),.inl ⟨rfl,rfl⟩,Jh (Below.refl _ _)⟩
 case round =>
  obtain ⟨m,L,rfl,hm,HL,hout,HB⟩:=hrel
  by_cases h0 : m = 0
  · subst h0
    rw [show ((0 : Nat) : Int) = 0 from rfl]
    have hLu : L = digs0 u:=by have:=HL.out; simpa [digs0] using this
    rcases hout with ⟨hL0,hv⟩ | ⟨hLp,g,cap,xs,hv,hown,hone⟩
    · subst hv
      have HE:=Jh (hL0.symm.trans hLu)
      clear hL0 hLu
      go_wp2
      go_ret
      exact ⟨none,0,by rw [← HE.out]; rfl,HB.out⟩
    · subst hv
      have HE:=Jh hLu
      clear hLu hown hone
      go_wp2
      go_ret
      exact ⟨some ⟨g,0,none⟩,cap,by rw [← HE.out]; rfl,HB.out⟩
  have HST:=Jh (show L + (1 + digs0 (m / 10)) = digs0 u by have:=HL.out; rw [digs0_step h0] at this; omega)
  have hLb : L ≤ 20:=by have:=HL.out; omega
  clear HL
  rcases hout with ⟨hL0,hv⟩ | ⟨hLp,g,cap,xs,hv,hown,hone⟩
  · subst hv
    subst hL0
    go_wp2_with (at_builtin; refine wpList_append_room0 rfl _ _ 127 rfl 3 ti undIs hti wr.heap.size 1 1 rfl rfl (Nat.le_refl _) ?_)
    go_roundw
    case rel => exact ⟨m / 10,1,by go_num,by omega,Jh (by have:=HST.out; omega),.inr ⟨by omega,wr.heap.size,1,_,rfl,fresh_row (HB.out.size) _ _,by simp [Value.oneCell']⟩,Jh (HB.out.alloc HB.out.size _)⟩
    case measure => simp [intOf]; omega
  · subst hv
    have hgl:=hown.lt g rfl
    have hxl : xs.length = L:=by have:=ownsRow_len hown; omega
    have HOW:=Jh hown
    have HXL:=Jh hxl
    have HONE:=Jh hone
    clear hown hxl hone
    go_wp2_with (at_builtin; refine wpList_append_lies _ rfl _ _ 127 rfl w.heap.size 3 ti _ 1 8 undIs hti hz0 hz1 hz2 rfl (by decide) _ 1 _ rfl (fresh_row HB.out.size _ _) ⟨g,0,none⟩ L cap xs rfl (by rw [HXL.out]; omega) (fun j u hu => old_cell HOW.out _ j u hu) HONE.out hLp (by unfold maxLen; omega) (by omega) (by have:=HB.out.size; simp; omega) (wr.heap.size + 1) (by simp) ?_; intro g2 cap2 w3 hown3 hgrow hat hlt3; have HO3:=Jh hown3; have HG3:=Jh hgrow; clear hown3 hgrow hat hlt3)
    go_roundw
    case rel => exact ⟨m / 10,1 + L,by go_num,by omega,Jh (by have:=HST.out; omega),.inr ⟨by omega,g2,cap2,_,rfl,HO3.out,one_cons HONE.out⟩,Jh ((HB.out.alloc HB.out.size _).grown HG3.out (by have:=HB.out.size; simp; omega) (fun j e => by have h1 : wr.heap.size = j:=Option.some.inj e; have:=HB.out.size; omega))⟩
    case measure => simp [intOf]; omega
theorem rdigits_neg (u : Nat) (hu : u ≤ 9223372036854775808) (w : World) :
 Calls Tryz.prog 172 #[.int .i64 (-(u : Nat))] w fun e w' => ∃ A cap,e = .returned (.slice A (digs0 u) cap) ∧ Below w.heap.size w w':=by
 obtain ⟨ti,hti,hz0,hz1,hz2⟩:=info_parts infoI
 have hdu:=digs0_le u (by omega)
 go_enter Tryz.func172,Tryz.ntmps172
 go_wp2
 go_loopw [0,3] (fun nv v wr => ∃ (m L : Nat),nv = .int .i64 (-(m : Nat)) ∧ m ≤ 9223372036854775808 ∧ Hid (L + digs0 m = digs0 u) ∧ Out w.heap.size wr v L ∧ Hid (Below w.heap.size w wr)) (fun nv _ _ => (intOf nv).natAbs)
 case atStart => exact ⟨u,0,rfl,hu,Jh (by omega),.inl ⟨rfl,rfl⟩,Jh (Below.refl _ _)⟩
 case round =>
  obtain ⟨m,L,rfl,hm,HL,hout,HB⟩:=hrel
  by_cases h0 : m = 0
  · subst h0
    rw [show (-((0 : Nat) : Int)) = 0 from rfl]
    have hLu : L = digs0 u:=by have:=HL.out; simpa [digs0] using this
    rcases hout with ⟨hL0,hv⟩ | ⟨hLp,g,cap,xs,hv,hown,hone⟩
    · subst hv
      have HE:=Jh (hL0.symm.trans hLu)
      clear hL0 hLu
      go_wp2
      go_ret
      exact ⟨none,0,by rw [← HE.out]; rfl,HB.out⟩
    · subst hv
      have HE:=Jh hLu
      clear hLu hown hone
      go_wp2
      go_ret
      exact ⟨some ⟨g,0,none⟩,cap,by rw [← HE.out]; rfl,HB.out⟩
  have HST:=Jh (show L + (1 + digs0 (m / 10)) = digs0 u by have:=HL.out; rw [digs0_step h0] at this; omega)
  have hLb : L ≤ 20:=by have:=HL.out; omega
  clear HL
  rcases hout with ⟨hL0,hv⟩ | ⟨hLp,g,cap,xs,hv,hown,hone⟩
  · subst hv
    subst hL0
    by_cases hz : (m : Int) % 10 = 0
    · as_aux_lemma =>
      go_wp2_with (at_builtin; refine wpList_append_room0 rfl _ _ 127 rfl 3 ti undIs hti wr.heap.size 1 1 rfl rfl (Nat.le_refl _) ?_)
      go_roundw
      case rel => exact ⟨m / 10,1,by go_num,by omega,Jh (by have:=HST.out; omega),.inr ⟨by omega,wr.heap.size,1,_,rfl,fresh_row (HB.out.size) _ _,by simp [Value.oneCell']⟩,Jh (HB.out.alloc HB.out.size _)⟩
      case measure => simp [intOf]; omega
    · as_aux_lemma =>
      have hz' : 0 < (m : Int) % 10:=by omega
      clear hz
      go_wp2_with (at_builtin; refine wpList_append_room0 rfl _ _ 127 rfl 3 ti undIs hti wr.heap.size 1 1 rfl rfl (Nat.le_refl _) ?_)
      go_roundw
      case rel => exact ⟨m / 10,1,by go_num,by omega,Jh (by have:=HST.out; omega),.inr ⟨by omega,wr.heap.size,1,_,rfl,fresh_row (HB.out.size) _ _,by simp [Value.oneCell']⟩,Jh (HB.out.alloc HB.out.size _)⟩
      case measure => simp [intOf]; omega
  · subst hv
    have hgl:=hown.lt g rfl
    have hxl : xs.length = L:=by have:=ownsRow_len hown; omega
    have HOW:=Jh hown
    have HXL:=Jh hxl
    have HONE:=Jh hone
    clear hown hxl hone
    by_cases hz : (m : Int) % 10 = 0
    · as_aux_lemma =>
      go_wp2_with (at_builtin; refine wpList_append_lies _ rfl _ _ 127 rfl w.heap.size 3 ti _ 1 8 undIs hti hz0 hz1 hz2 rfl (by decide) _ 1 _ rfl (fresh_row HB.out.size _ _) ⟨g,0,none⟩ L cap xs rfl (by rw [HXL.out]; omega) (fun j u hu => old_cell HOW.out _ j u hu) HONE.out hLp (by unfold maxLen; omega) (by omega) (by have:=HB.out.size; simp; omega) (wr.heap.size + 1) (by simp) ?_; intro g2 cap2 w3 hown3 hgrow hat hlt3; have HO3:=Jh hown3; have HG3:=Jh hgrow; clear hown3 hgrow hat hlt3)
      go_roundw
      case rel => exact ⟨m / 10,1 + L,by go_num,by omega,Jh (by have:=HST.out; omega),.inr ⟨by omega,g2,cap2,_,rfl,HO3.out,one_cons HONE.out⟩,Jh ((HB.out.alloc HB.out.size _).grown HG3.out (by have:=HB.out.size; simp; omega) (fun j e => by have h1 : wr.heap.size = j:=Option.some.inj e; have:=HB.out.size; omega))⟩
      case measure => simp [intOf]; omega
    · as_aux_lemma =>
      have hz' : 0 < (m : Int) % 10:=by omega
      clear hz
      go_wp2_with (at_builtin; refine wpList_append_lies _ rfl _ _ 127 rfl w.heap.size 3 ti _ 1 8 undIs hti hz0 hz1 hz2 rfl (by decide) _ 1 _ rfl (fresh_row HB.out.size _ _) ⟨g,0,none⟩ L cap xs rfl (by rw [HXL.out]; omega) (fun j u hu => old_cell HOW.out _ j u hu) HONE.out hLp (by unfold maxLen; omega) (by omega) (by have:=HB.out.size; simp; omega) (wr.heap.size + 1) (by simp) ?_; intro g2 cap2 w3 hown3 hgrow hat hlt3; have HO3:=Jh hown3; have HG3:=Jh hgrow; clear hown3 hgrow hat hlt3)
      go_roundw
      case rel => exact ⟨m / 10,1 + L,by go_num,by omega,Jh (by have:=HST.out; omega),.inr ⟨by omega,g2,cap2,_,rfl,HO3.out,one_cons HONE.out⟩,Jh ((HB.out.alloc HB.out.size _).grown HG3.out (by have:=HB.out.size; simp; omega) (fun j e => by have h1 : wr.heap.size = j:=Option.some.inj e; have:=HB.out.size; omega))⟩
      case measure => simp [intOf]; omega
theorem rdigits_c (n : Int) (hn : i64 n) (w : World) : Calls Tryz.prog 172 #[.int .i64 n] w fun e w' => ∃ A cap,e = .returned (.slice A (digs0 n.natAbs) cap) ∧ Below w.heap.size w w':=by
 by_cases h : n < 0
 · have:=rdigits_neg n.natAbs (by have:=hn.1; omega) w
   rwa [show (-(n.natAbs : Nat) : Int) = n by omega] at this
 · have:=rdigits_pos n.natAbs (by have:=hn.2; omega) w
   rwa [show ((n.natAbs : Nat) : Int) = n by omega] at this
end Go.Proofs.YtjobojfaocihfaaGreat
namespace Go.Proofs.YtjobojfaocihfaaGreat
set_option maxRecDepth 100000
set_option maxHeartbeats 2000000
open Go.RowKit Go.Shelf
section
variable {P : Program} {md : Region.Mode} {ops : Array Oper} {Q : Exit → Act → World → Prop} {S : World → Prop}
theorem wpAnyH_storeRow0 {i : Nat} {o : Oper} {fuel : Nat} {listed : Array Bool} {a : Act} {w : World} (hr : Region.ready md ops listed = [i]) (ho : ops[i]? = some o) (hg : o.guard = none) (ty : TypeId) (x y : Operand) (hop : o.op = .store ty x y)
 (b : Nat) (cells : Array Value) (hx : a.eval x = .pointer (some ⟨b,0,none⟩)) (hy : a.eval y = .agg cells) (t : TypeId) (old : Array Value) (hb : w.heap[b]? = some (.cells old t (0,0))) (hi : (P.info? ty).map (·.size) = some cells.size) (hold : old.size = cells.size) (h1 : cells.all (·.oneCell') = true) (hS : S (w.setRow b cells))
 (h : S (w.setRow b cells) → wpAnyH P md ops Q S fuel (listed.setIfInBounds i true) (a.put o.dst undef) (w.setRow b cells)) : wpAnyH P md ops Q S (fuel + 1) listed a w :=
 wpAnyH_ready hr (by simp) (AllReadyH.cons ho (fun K hK => by
  rw [if_pos (wanted_none hg)]
  exact wp_store_row ty x y hop b cells hx hy t old hb hi hold h1 (hK.out _ _ hS h)) AllReadyH.nil)
end
theorem undD : Tryz.prog.underlying 227 = some (.struct (Tryz.prog.fieldsOf 227)):=by kernel_rfl
theorem rof_any (m x : Int) (hm : i64 m) (w : World) : Calls Tryz.prog 135 #[.agg #[.int .i64 m,.int .i64 x]] w fun e w' => ∃ A cap,e = .returned (.agg #[.bool (decide (m < 0)),.slice A (digs0 m.natAbs) cap,.int .i64 x]) ∧ Below w.heap.size w w':=by
 have HD:=Jh (fun w => rdigits_c m hm w)
 obtain ⟨Z,hZ⟩ : ∃ Z : Array Value,Z = #[.bool false,.slice none 0 0,.int .i64 0]:=⟨_,rfl⟩
 have hzs : Z.size = 3:=by rw [hZ]; rfl
 obtain ⟨W,hW⟩ : ∃ W,W = (w.alloc (.cells #[.int .i64 m,.int .i64 x] 45)).alloc (.cells Z 227):=⟨_,rfl⟩
 obtain ⟨w0,hw0⟩ : ∃ w0,w0 = w.heap.size:=⟨_,rfl⟩
 have hbW : Below w.heap.size w W:=by rw [hW]; exact ((Below.refl _ w).alloc (Nat.le_refl _) _).alloc (by simp) _
 have hWs : w0 + 2 ≤ W.heap.size:=by rw [hW,hw0]; simp
 have hlt : w0 < w0 + 1:=by omega
 have k0 : W.cell? ⟨w0,0,none⟩ = some (.int .i64 m):=by rw [hW,hw0]; simp
 have k1 : W.cell? ⟨w0,1,none⟩ = some (.int .i64 x):=by rw [hW,hw0]; simp
 have hkz : W.heap[w0 + 1]? = some (.cells Z 227):=by
  rw [hW,hw0]; have:=heap_alloc_new (w.alloc (.cells #[.int .i64 m,.int .i64 x] 45)) (.cells Z 227); rwa [World.size_alloc] at this
 have HW:=Jh hW
 have HBW:=Jh hbW
 have HW0:=Jh hw0
 clear hW hbW hm hw0
 go_enter Tryz.func135,Tryz.ntmps135
 go_upto_region 1 with (fail)
 (try simp only [Act.put,List.setIfInBounds_toArray,List.set_cons_zero,List.set_cons_succ])
 rw [← hZ,← HW.out,← HW0.out]
 clear hZ
 refine wp_region_held_drew (S:=fun w => Below (w0 + 1) W w) (by kernel_rfl) ((Below.refl _ _).drew) (fun hHeld => ?_)
 refine tkG (i:=0) rfl (Or.inl ⟨by kernel_rfl,by (intro w hSw; clear hSw; go_simp); try with_reducible rfl⟩) (by assumption) ?_
 (try simp only [List.getElem_toArray,List.getElem_cons_zero,Act.put,List.setIfInBounds_toArray,List.set_cons_zero,List.set_cons_succ])
 refine tkG (i:=1) rfl (Or.inl ⟨by kernel_rfl,by (intro w hSw; have q0:=(Below.cell hSw (p:=⟨w0,0,none⟩) hlt).trans k0; clear hSw; go_simp); try with_reducible rfl⟩) (by assumption) ?_
 try simp only [sX]
 refine tkG (i:=2) rfl (Or.inl ⟨by kernel_rfl,by (intro w hSw; clear hSw; go_simp); try with_reducible rfl⟩) (by assumption) ?_
 try simp only [sX]
 refine tkG (i:=3) rfl (Or.inl ⟨by kernel_rfl,by (intro w hSw; clear hSw; go_simp); try with_reducible rfl⟩) (by assumption) ?_
 try simp only [sX]
 refine tkG (i:=4) rfl (Or.inl ⟨by kernel_rfl,by (intro w hSw; have q0:=(Below.cell hSw (p:=⟨w0,0,none⟩) hlt).trans k0; clear hSw; go_simp); try with_reducible rfl⟩) (by assumption) ?_
 try simp only [sX]
 refine tkG (i:=6) rfl (Or.inl ⟨by kernel_rfl,by (intro w hSw; clear hSw; go_simp); try with_reducible rfl⟩) (by assumption) ?_
 try simp only [sX]
 refine tkG (i:=7) rfl (Or.inl ⟨by kernel_rfl,by (intro w hSw; have q1:=(Below.cell hSw (p:=⟨w0,1,none⟩) hlt).trans k1; clear hSw; go_simp); try with_reducible rfl⟩) (by assumption) ?_
 try simp only [sX]
 refine wpAnyH_ready (rs:=[5]) (by kernel_rfl) (by simp) ?_
 refine AllReadyH.cons rfl (fun K hK => ?_) AllReadyH.nil
 go_simp
 refine (HD.out _).mono ?_
 rintro e w4 ⟨A,cap,rfl,hb4⟩
 try go_simp
 have hH4 : Below (w0 + 1) W w4:=Below.trans hHeld (hb4.mono (by have:=hb4.size; have:=Below.size hHeld; simp at *; omega))
 refine hK.out _ _ hH4 (fun hHeld4 => ?_)
 clear hK K
 try try simp only [sX]
 refine tkG (i:=8) rfl (Or.inl ⟨by kernel_rfl,by (intro w hSw; clear hSw; go_simp); try with_reducible rfl⟩) (by assumption) ?_
 try simp only [sX]
 have hz4 : w4.heap[w0 + 1]? = some (.cells Z 227):=(hb4.block _ (by simp; omega)).trans hkz
 refine wpAnyH_storeRow0 (i:=9) (by kernel_rfl) rfl rfl 227 _ _ rfl (w0 + 1) #[.bool (decide (m < 0)),.slice A (digs0 m.natAbs) cap,.int .i64 x] rfl rfl 227 Z hz4 (by kernel_rfl) hzs (by simp [Value.oneCell']) (below_row hHeld4 (Nat.le_refl _) _) (fun hHeld5 => ?_)
 (try simp only [List.getElem_toArray,List.getElem_cons_succ,List.getElem_cons_zero,Act.put])
 refine wpAnyH_done (by kernel_rfl) ?_ _
 go_wp2
 refine bodyPost_ret (v:=.agg #[.bool (decide (m < 0)),.slice A (digs0 m.natAbs) cap,.int .i64 x]) (results_cell_row rfl _ _ (w0 + 1) 227 _ (0,0) _ rfl (setRow_heap _ _ _ _ _ _ hz4) undD rfl (by kernel_rfl)) rfl ?_
 exact ⟨A,cap,rfl,HBW.out.trans (below_row (hHeld4.mono (by have:=HW0.out; omega)) (by have:=HW0.out; omega) _)⟩
end Go.Proofs.YtjobojfaocihfaaGreat
namespace Go.Proofs.YtjobojfaocihfaaGreat
set_option maxRecDepth 100000
set_option maxHeartbeats 2000000
open Go.RowKit Go.Shelf
theorem keep_mx {b B : Nat} {m x : Int} {w0 w w' : World} (h : (w.cell? ⟨b, 0, none⟩ = some (.int .i64 m) ∧ w.cell? ⟨b, 1, none⟩ = some (.int .i64 x)) ∧ Below B w0 w) (hbw : Below w.heap.size w w') (hB : B ≤ w0.heap.size) :
 (w'.cell? ⟨b,0,none⟩ = some (.int .i64 m) ∧ w'.cell? ⟨b,1,none⟩ = some (.int .i64 x)) ∧ Below B w0 w':=by
 obtain ⟨⟨h0,h1⟩,hb⟩:=h
 have hlt : b < w.heap.size:=World.block_lt_of_cell? w _ h0
 exact ⟨⟨(hbw.cell (p:=⟨b,0,none⟩) hlt).trans h0,(hbw.cell (p:=⟨b,1,none⟩) hlt).trans h1⟩,hb.trans (hbw.mono (Nat.le_trans hB hb.size))⟩
theorem tmod10 (m : Int) : m.tmod 10 = 0 ↔ m.natAbs % 10 = 0:=by
 rcases Int.eq_nat_or_neg m with ⟨n,rfl | rfl⟩
 · rw [Int.tmod_eq_emod_of_nonneg (by omega)]; omega
 · rw [Int.neg_tmod,Int.tmod_eq_emod_of_nonneg (by omega)]; omega
theorem rnum_spec (m x : Int) : numRight m x = if m = 0 then decide (x = 0) else if 1000000000000000 ≤ m ∨ m ≤ -1000000000000000 ∨ m.tmod 10 = 0 ∨ x < -40 ∨ 40 < x then false else decide ((digs0 m.natAbs : Int) + x ≤ 40):=by
 unfold numRight
 by_cases h0 : m = 0
 · rw [if_pos h0,if_pos h0]
 · rw [if_neg h0,if_neg h0]
   have hp:=digs_pos m.natAbs
   have hd : digs0 m.natAbs = digs m.natAbs:=by unfold digs0; rw [if_neg (by omega)]
   rw [hd]
   simp only [tmod10]
   by_cases h : 1000000000000000 ≤ m ∨ m ≤ -1000000000000000 ∨ m.natAbs % 10 = 0 ∨ x < -40 ∨ 40 < x
   · rw [if_pos h]
     rw [Bool.eq_iff_iff]
     simp
     omega
   · rw [if_neg h]
     rw [Bool.eq_iff_iff]
     simp
     omega
theorem rright01_any (m x : Int) (hm : i64 m) (w : World) : Calls Tryz.prog 98 #[.agg #[.int .i64 m,.int .i64 x]] w fun e w' => e = .returned (.bool (numRight m x)) ∧ Below w.heap.size w w':=by
 rw [rnum_spec]
 have hb0 : ∀ n,Below w.heap.size w ((w.alloc (.cells #[.int .i64 m,.int .i64 x] 45)).drewN n):=fun n => below_drewN ((Below.refl _ w).alloc (Nat.le_refl _) _) n
 have HB:=Jh hb0
 have HO:=Jh (fun w => rof_any m x hm w)
 have hdl:=digs0_le m.natAbs (by obtain ⟨h1,h2⟩:=hm; omega)
 have hm1:=hm.1
 have hm2:=hm.2
 clear hm hb0
 generalize digs0 m.natAbs = D at *
 by_cases h0 : m = 0
 · rw [if_pos h0]
   subst h0
   by_cases hx0 : x = 0
   · subst hx0
     go_enter Tryz.func98,Tryz.ntmps98
     go_wp2
     go_ret
     exact ⟨rfl,HB.out 0⟩
   · have hx0' : decide (x = 0) = false:=decide_eq_false hx0
     have hx0'' : (x == 0) = false:=beq_eq_false_iff_ne.2 hx0
     rw [hx0']
     go_enter Tryz.func98,Tryz.ntmps98
     go_wp2
     go_ret
     exact ⟨rfl,HB.out 0⟩
 · rw [if_neg h0]
   have h0' : (m == 0) = false:=beq_eq_false_iff_ne.2 h0
   by_cases h1 : 1000000000000000 ≤ m
   · rw [if_pos (.inl h1)]
     go_enter Tryz.func98,Tryz.ntmps98
     go_wp2
     go_ret
     exact ⟨rfl,HB.out 0⟩
   by_cases h2 : m ≤ -1000000000000000
   · rw [if_pos (.inr (.inl h2))]
     go_enter Tryz.func98,Tryz.ntmps98
     go_wp2
     go_ret
     exact ⟨rfl,HB.out 0⟩
   obtain ⟨r,hr⟩ : ∃ r,m.tmod 10 = r:=⟨_,rfl⟩
   rw [hr]
   by_cases h3 : r = 0
   · rw [if_pos (.inr (.inr (.inl h3)))]
     subst h3
     go_enter Tryz.func98,Tryz.ntmps98
     go_wp2
     go_ret
     exact ⟨rfl,HB.out 0⟩
   have h3' : (r == 0) = false:=beq_eq_false_iff_ne.2 h3
   by_cases h4 : x < -40
   · rw [if_pos (.inr (.inr (.inr (.inl h4))))]
     go_enter Tryz.func98,Tryz.ntmps98
     go_wp2
     go_ret
     exact ⟨rfl,HB.out 0⟩
   by_cases h5 : 40 < x
   · rw [if_pos (.inr (.inr (.inr (.inr h5))))]
     go_enter Tryz.func98,Tryz.ntmps98
     go_wp2
     go_ret
     exact ⟨rfl,HB.out 0⟩
   rw [if_neg (by omega)]
   have hwr : IntKind.i64.wrap ((D : Int) + x) = (D : Int) + x:=IntWalk.i64_in _ (by omega)
   have HWR:=Jh hwr
   clear hwr
   go_enter Tryz.func98,Tryz.ntmps98
   go_wp2
   have hwr:=HWR.out
   have hfd : ∀ (b : Bool) (A : Option Addr) (n c : Nat) (y : Int) (wx : World),(Instr.field 227 (.agg #[.bool b,.slice A n c,.int .i64 y]) 1).run Tryz.prog wx = .ok (.slice A n c) wx:=fun _ _ _ _ _ _ => by kernel_rfl
   have hbd : Below w.heap.size w (w.alloc (.cells #[.int .i64 m,.int .i64 x] 45)).drew:=((Below.refl _ w).alloc (Nat.le_refl _) _).drew
   go_region_held3 (fun wx => (wx.cell? ⟨w.heap.size,0,none⟩ = some (.int .i64 m) ∧ wx.cell? ⟨w.heap.size,1,none⟩ = some (.int .i64 x)) ∧ Below w.heap.size w wx) (first | exact keep_mx (by assumption) (by assumption) (Nat.le_refl _) | go_keep)
    ((go_at_call 135; refine (HO.out _).mono ?_; rintro e w2 ⟨A,cap,rfl,hbe⟩))
   all_goals
    go_wp2
    go_ret
    refine ⟨ret_bool (by first | rfl | simp),?_⟩
    first
     | assumption
     | (rename_i hS; exact hS.2)
theorem rnum_any (m x : Int) (hm : i64 m) (w : World) : Calls Tryz.prog 196 #[.agg #[.int .i64 m,.int .i64 x]] w fun e w' => e = .returned (.bool (numRight m x)) ∧ Below w.heap.size w w':=by
 have hR:=fun w => rright01_any m x hm w
 generalize numRight m x = q at *
 have HR:=Jh hR
 clear hR hm
 go_enter Tryz.func196,Tryz.ntmps196
 go_wp2_with (go_at_call 98; refine (HR.out _).mono ?_; rintro e w2 ⟨rfl,hbe⟩)
 go_ret
 exact ⟨rfl,((Below.refl _ w).alloc (Nat.le_refl _) _).trans (hbe.mono (by simp))⟩
end Go.Proofs.YtjobojfaocihfaaGreat
