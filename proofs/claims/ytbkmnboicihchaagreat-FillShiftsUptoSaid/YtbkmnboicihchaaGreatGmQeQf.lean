/- the reference's Shift: a tree that goes from a cell to another one. axis.Delete of an axis that is not ready: the walks. axis.Delete of an axis that is not ready: turn,Delete. -/
import Derived.Test.YtbkmnboicihchaaGreatZnGkGl
import Derived.Test.YtbkmnboicihchaaGreatIoIpSrQdQvGiCu
namespace Go.Proofs.YtbkmnboicihchaaGreat
set_option maxRecDepth 100000
set_option maxHeartbeats 8000000
set_option linter.unusedSimpArgs false
set_option linter.unusedVariables false
open Go Go.RowKit Go.Shelf Go.Maps
theorem posZ_neg {l : List Ik} {x : Ik} (h : posZ l x < 0) : placeL l x = none:=by
 unfold posZ at h
 cases hp : placeL l x with
 | none => rfl
 | some p => rw [hp] at h; simp at h; omega
theorem posZ_pos {l : List Ik} {x : Ik} (h : ¬ posZ l x < 0) : ∃ p : Nat,placeL l x = some p ∧ posZ l x = p ∧ p < l.length:=by
 unfold posZ at h ⊢
 cases hp : placeL l x with
 | none => rw [hp] at h; simp at h
 | some p => exact ⟨p,rfl,rfl,(placeL_some hp).1⟩
theorem wayI_no {l : List Ik} {x y : Ik} (h : placeL l x = none ∨ placeL l y = none) : wayI l x y = none:=by
 unfold wayI
 rcases h with h | h
 · rw [h]
 · rw [h]; cases placeL l x <;> rfl
theorem row_range4R {w : World} {g : Nat} {x : Cl} (h : w.heap[g]? = some (.cells x.vals.toArray 36)) : w.rangeAt g 0 [.int .i64 x.row.a,.int .i64 x.row.n] ∧ w.rangeAt g 2 [.int .i64 x.col.a,.int .i64 x.col.n]:=range_row4 h
def RShiftPost (w : World) (r : Tr) (e : Ending) (w' : World) : Prop:=∃ A c,e = .returned (nodeV r.d A r.l.length c) ∧ r.d.ok ∧ SlAt w' w'.heap.size A c r.l ∧ Below w.heap.size w w'
theorem rshift_c {R K : List Ik} {A1 A2 : Option Addr} {c1 c2 : Nat} {w : World} {base base2 : Nat} (hR : w.ownsRow base 27 2 (.slice A1 R.length c1) R.length (ikCells R)) (hK : w.ownsRow base2 27 2 (.slice A2 K.length c2) K.length (ikCells K)) (hRl : R.length ≤ 1000) (hKl : K.length ≤ 1000) (hRo : ∀ x ∈ R, x.ok) (hKo : ∀ x ∈ K, x.ok) (t : Tr) (A : Option Addr) (c : Nat) (hd : t.d.ok) (hs : SlAt w w.heap.size A c t.l) (hsz : t.size ≤ 1048576) (x y : Cl) :
   Calls Tryz.prog 9 #[nodeV t.d A t.l.length c,.agg x.vals.toArray,.agg y.vals.toArray,.slice A1 R.length c1,.slice A2 K.length c2] w (RShiftPost w (shiftT R K x y t)):=by
 obtain ⟨g,hg⟩ : ∃ g,g = w.heap.size:=⟨_,rfl⟩
 obtain ⟨N,hN⟩ : ∃ N,N = nodeA t.d A t.l.length c:=⟨_,rfl⟩
 obtain ⟨W,hW⟩ : ∃ W,W = (((w.alloc (.cells N 34)).alloc (.cells x.vals.toArray 36)).alloc (.cells y.vals.toArray 36)).alloc (.cells (nodeA zD none 0 0) 34):=⟨_,rfl⟩
 have hb : Below w.heap.size w W:=by rw [hW]; exact ((((Below.refl _ w).alloc (Nat.le_refl _) _).alloc (by simp <;> omega) _).alloc (by simp <;> omega) _).alloc (by simp <;> omega) _
 have hk0 : W.heap[g]? = some (.cells N 34) ∧ W.heap[g + 1]? = some (.cells x.vals.toArray 36) ∧ W.heap[g + 2]? = some (.cells y.vals.toArray 36) ∧ W.heap[g + 3]? = some (.cells (nodeA zD none 0 0) 34):=by
   rw [hW,hg]
   refine ⟨?_,?_,?_,?_⟩ <;> (simp only [heapAllocIf,World.size_alloc]; repeat (first | rw [if_pos trivial] | rw [if_pos (by omega)] | rw [if_neg (by omega)]))
 have hWs : W.heap.size = g + 4:=by rw [hW,hg]; simp
 have hNs : N.size = 22 ∧ N.all (·.oneCell') = true:=by rw [hN]; exact ⟨rfl,node_one _ _ _ _⟩
 have hkp : ∀ wx,Below W.heap.size W wx → (wx.heap[g]? = some (.cells N 34) ∧ wx.heap[g + 3]? = some (.cells (nodeA zD none 0 0) 34)) ∧ wx.rangeAt (g + 1) 0 [.int .i64 x.row.a,.int .i64 x.row.n] ∧ wx.rangeAt (g + 1) 2 [.int .i64 x.col.a,.int .i64 x.col.n] ∧ wx.rangeAt (g + 2) 0 [.int .i64 y.row.a,.int .i64 y.row.n] ∧ wx.rangeAt (g + 2) 2 [.int .i64 y.col.a,.int .i64 y.col.n]:=fun wx h => by
   have hh : ∀ k,k < g + 4 → wx.heap[k]? = W.heap[k]?:=fun k hk => h.block k (by omega)
   have r1:=row_range4R ((hh (g + 1) (by omega)).trans hk0.2.1)
   have r2:=row_range4R ((hh (g + 2) (by omega)).trans hk0.2.2.1)
   exact ⟨⟨(hh g (by omega)).trans hk0.1,(hh (g + 3) (by omega)).trans hk0.2.2.2⟩,r1.1,r1.2,r2.1,r2.2⟩
 have hPR : ∀ wx,Below W.heap.size W wx → ∀ i : Ik,Calls Tryz.prog 28 #[.slice A1 R.length c1,.agg #[.int .i64 i.a,.int .i64 i.n]] wx fun e w' => e = .returned (.int .i64 (posZ R i)) ∧ Below wx.heap.size wx w':=fun wx h i => rplace_c (own_blk_kp hR (hb.trans (h.mono hb.size))) (by omega) i
 have hPK : ∀ wx,Below W.heap.size W wx → ∀ i : Ik,Calls Tryz.prog 28 #[.slice A2 K.length c2,.agg #[.int .i64 i.a,.int .i64 i.n]] wx fun e w' => e = .returned (.int .i64 (posZ K i)) ∧ Below wx.heap.size wx w':=fun wx h i => rplace_c (own_blk_kp hK (hb.trans (h.mono hb.size))) (by omega) i
 have hGN : ∀ wx (dn rt : Int),Below W.heap.size W wx → (-1000000 ≤ dn ∧ dn ≤ 1000000) → (-1000000 ≤ rt ∧ rt ≤ 1000000) → Calls Tryz.prog 29 #[.agg N,.slice A1 R.length c1,.slice A2 K.length c2,.int .i64 dn,.int .i64 rt] wx (GonePost wx (goneT ⟨R,K,dn,rt⟩ t)):=fun wx dn rt h hdn hrt => by
   have hx:=hb.trans (h.mono hb.size)
   rw [hN]; exact rgone_c hRl hKl hRo hKo hdn hrt t wx base base2 w.heap.size A c (own_blk_kp hR hx) (own_blk_kp hK hx) hd (hs.below hx) hx.size hsz
 have hno : (posZ R x.row < 0 ∨ posZ R y.row < 0 ∨ posZ K x.col < 0 ∨ posZ K y.col < 0) → ∀ wx cs,Below W.heap.size W wx → RShiftPost w (shiftT R K x y t) (.returned (.agg N)) (wx.setRow (g + 3) cs):=fun h wx cs hx => by
   have e : shiftT R K x y t = t:=shiftT_no (by
     rcases h with h | h | h | h
     · exact .inl (wayI_no (.inl (posZ_neg h)))
     · exact .inl (wayI_no (.inr (posZ_neg h)))
     · exact .inr (wayI_no (.inl (posZ_neg h)))
     · exact .inr (wayI_no (.inr (posZ_neg h)))) t
   have hbx:=below_row (hb.trans (hx.mono hb.size)) (show w.heap.size ≤ g + 3 by omega) cs
   rw [e,hN]
   exact ⟨A,c,rfl,hd,(hs.below hbx).more hbx.size,hbx⟩
 have hyes : ¬ posZ R x.row < 0 → ¬ posZ R y.row < 0 → ¬ posZ K x.col < 0 → ¬ posZ K y.col < 0 → shiftT R K x y t = goneT ⟨R,K,posZ R y.row - posZ R x.row,posZ K y.col - posZ K x.col⟩ t ∧ ((0 ≤ posZ R x.row ∧ posZ R x.row ≤ 1000) ∧ (0 ≤ posZ R y.row ∧ posZ R y.row ≤ 1000) ∧ (0 ≤ posZ K x.col ∧ posZ K x.col ≤ 1000) ∧ (0 ≤ posZ K y.col ∧ posZ K y.col ≤ 1000)):=fun q1 q2 q3 q4 => by
   obtain ⟨p1,a1,b1,l1⟩:=posZ_pos q1
   obtain ⟨p2,a2,b2,l2⟩:=posZ_pos q2
   obtain ⟨p3,a3,b3,l3⟩:=posZ_pos q3
   obtain ⟨p4,a4,b4,l4⟩:=posZ_pos q4
   rw [b1,b2,b3,b4]
   exact ⟨shiftT_of (wayI_of a1 a2) (wayI_of a3 a4) t,⟨by omega,by omega⟩,⟨by omega,by omega⟩,⟨by omega,by omega⟩,⟨by omega,by omega⟩⟩
 obtain ⟨z1,hz1⟩ : ∃ z,z = posZ R x.row:=⟨_,rfl⟩
 obtain ⟨z2,hz2⟩ : ∃ z,z = posZ R y.row:=⟨_,rfl⟩
 obtain ⟨z3,hz3⟩ : ∃ z,z = posZ K x.col:=⟨_,rfl⟩
 obtain ⟨z4,hz4⟩ : ∃ z,z = posZ K y.col:=⟨_,rfl⟩
 have HP1:=Lib.hid (fun wx h => by have:=hPR wx h x.row; rwa [← hz1] at this)
 have HP2:=Lib.hid (fun wx h => by have:=hPR wx h y.row; rwa [← hz2] at this)
 have HP3:=Lib.hid (fun wx h => by have:=hPK wx h x.col; rwa [← hz3] at this)
 have HP4:=Lib.hid (fun wx h => by have:=hPK wx h y.col; rwa [← hz4] at this)
 rw [← hz1,← hz2,← hz3,← hz4] at hno hyes
 obtain ⟨RT,hRT⟩ : ∃ x',x' = shiftT R K x y t:=⟨_,rfl⟩
 rw [← hRT] at hno hyes ⊢
 have HNO:=Lib.hid hno
 have HYES:=Lib.hid hyes
 have HGN:=Lib.hid hGN
 have HKP:=Lib.hid hkp
 have HK0:=Lib.hid (hkp W (Below.refl _ _))
 have HB:=Lib.hid (And.intro hb (show w.heap.size ≤ g + 3 by omega))
 have HNS:=Lib.hid hNs
 have HW:=Lib.hid hW
 have HG:=Lib.hid hg
 have HIL:=Lib.hid (show ∀ a b : Value,(Tryz.prog.info? 27).map (·.size) = some [a,b].length from fun _ _ => infIk)
 obtain ⟨nr,hnr⟩ : ∃ n,n = R.length:=⟨_,rfl⟩
 obtain ⟨nk,hnk⟩ : ∃ n,n = K.length:=⟨_,rfl⟩
 rw [nodeV,← hN]
 rw [← hnr] at HP1 HP2 HGN ⊢
 rw [← hnk] at HP3 HP4 HGN ⊢
 clear hR hK hRl hKl hRo hKo hd hs hsz hg hN hW hb hk0 hWs hNs hkp hPR hPK hGN hno hyes hz1 hz2 hz3 hz4 hRT hnr hnk
 obtain ⟨⟨xra,xrn⟩,⟨xca,xcn⟩⟩:=x
 obtain ⟨⟨yra,yrn⟩,⟨yca,ycn⟩⟩:=y
 dsimp only [Cl.vals] at HW HK0 HKP HP1 HP2 HP3 HP4 ⊢
 go_enter Tryz.func9,Tryz.ntmps9
 go_upto_region 1 with (first | (refine wpList_nodeVar rfl rfl (w.heap.size + 3) (by rw [World.size_alloc,World.size_alloc,World.size_alloc]) ?_) | fail)
 change Code.wp _ _ _ _ ((((w.alloc (.cells N 34)).alloc (.cells #[.int .i64 xra,.int .i64 xrn,.int .i64 xca,.int .i64 xcn] 36)).alloc (.cells #[.int .i64 yra,.int .i64 yrn,.int .i64 yca,.int .i64 ycn] 36)).alloc (.cells (nodeA zD none 0 0) 34))
 rw [← HW.out,← HG.out]
 have HB1:=Lib.hid (Below.refl W.heap.size W)
 have HK1:=Lib.hid HK0.out
 go_upto_region 2 with (first | (refine wpList_mid rfl 27 _ rfl (g + 1) 0 rfl [.int .i64 xra,.int .i64 xrn] _ HK1.out.2.1 ikUnd rfl (HIL.out _ _) ?_) | (go_at_call 28; refine (HP1.out W (HB1.out)).mono ?_; rintro e w2 ⟨rfl,hb2⟩; have HB2 : Hid (Below W.heap.size W w2):=Lib.hid (HB1.out.trans (hb2.mono HB1.out.size)); clear hb2) | fail)
 have HK2:=Lib.hid (HKP.out w2 HB2.out)
 go_upto_region 3 with (first | (refine wpList_mid rfl 27 _ rfl (g + 2) 0 rfl [.int .i64 yra,.int .i64 yrn] _ HK2.out.2.2.2.1 ikUnd rfl (HIL.out _ _) ?_) | (go_at_call 28; refine (HP2.out w2 (HB2.out)).mono ?_; rintro e w3 ⟨rfl,hb2⟩; have HB3 : Hid (Below W.heap.size W w3):=Lib.hid (HB2.out.trans (hb2.mono HB2.out.size)); clear hb2) | fail)
 have HK3:=Lib.hid (HKP.out w3 HB3.out)
 go_upto_region 4 with (first | (refine wpList_mid rfl 27 _ rfl (g + 1) 2 rfl [.int .i64 xca,.int .i64 xcn] _ HK3.out.2.2.1 ikUnd rfl (HIL.out _ _) ?_) | (go_at_call 28; refine (HP3.out w3 (HB3.out)).mono ?_; rintro e w4 ⟨rfl,hb2⟩; have HB4 : Hid (Below W.heap.size W w4):=Lib.hid (HB3.out.trans (hb2.mono HB3.out.size)); clear hb2) | fail)
 have HK4:=Lib.hid (HKP.out w4 HB4.out)
 go_upto_region 5 with (first | (refine wpList_mid rfl 27 _ rfl (g + 2) 2 rfl [.int .i64 yca,.int .i64 ycn] _ HK4.out.2.2.2.2 ikUnd rfl (HIL.out _ _) ?_) | (go_at_call 28; refine (HP4.out w4 (HB4.out)).mono ?_; rintro e w5 ⟨rfl,hb2⟩; have HB5 : Hid (Below W.heap.size W w5):=Lib.hid (HB4.out.trans (hb2.mono HB4.out.size)); clear hb2) | fail)
 have HK5:=Lib.hid (HKP.out w5 HB5.out)
 clear HP1 HP2 HP3 HP4 HK0 HK1 HK2 HK3 HK4 HB1 HB2 HB3 HB4 HW
 by_cases q1 : z1 < 0
 · have HQ:=Lib.hid q1
   go_wp2_with (first | (refine wpList_row rfl 34 _ rfl g rfl 34 N (0,0) _ HK5.out.1.1 undN rfl (infS HNS.out.1) ?_) | (refine wpList_store_row rfl 34 _ _ rfl (g + 3) N rfl rfl 34 (nodeA zD none 0 0) HK5.out.1.2 (infS HNS.out.1) HNS.out.1.symm HNS.out.2 ?_) | fail)
   refine bodyPost_ret (v:=.agg N) (results_cell_row rfl _ _ (g + 3) 34 N (0,0) _ rfl (setRow_heap _ _ _ _ _ _ HK5.out.1.2) undN rfl (infS HNS.out.1)) rfl ?_
   exact HNO.out (.inl HQ.out) _ _ HB5.out
 by_cases q2 : z2 < 0
 · have HQ:=Lib.hid q2
   go_wp2_with (first | (refine wpList_row rfl 34 _ rfl g rfl 34 N (0,0) _ HK5.out.1.1 undN rfl (infS HNS.out.1) ?_) | (refine wpList_store_row rfl 34 _ _ rfl (g + 3) N rfl rfl 34 (nodeA zD none 0 0) HK5.out.1.2 (infS HNS.out.1) HNS.out.1.symm HNS.out.2 ?_) | fail)
   refine bodyPost_ret (v:=.agg N) (results_cell_row rfl _ _ (g + 3) 34 N (0,0) _ rfl (setRow_heap _ _ _ _ _ _ HK5.out.1.2) undN rfl (infS HNS.out.1)) rfl ?_
   exact HNO.out (.inr (.inl HQ.out)) _ _ HB5.out
 by_cases q3 : z3 < 0
 · have HQ:=Lib.hid q3
   go_wp2_with (first | (refine wpList_row rfl 34 _ rfl g rfl 34 N (0,0) _ HK5.out.1.1 undN rfl (infS HNS.out.1) ?_) | (refine wpList_store_row rfl 34 _ _ rfl (g + 3) N rfl rfl 34 (nodeA zD none 0 0) HK5.out.1.2 (infS HNS.out.1) HNS.out.1.symm HNS.out.2 ?_) | fail)
   refine bodyPost_ret (v:=.agg N) (results_cell_row rfl _ _ (g + 3) 34 N (0,0) _ rfl (setRow_heap _ _ _ _ _ _ HK5.out.1.2) undN rfl (infS HNS.out.1)) rfl ?_
   exact HNO.out (.inr (.inr (.inl HQ.out))) _ _ HB5.out
 by_cases q4 : z4 < 0
 · have HQ:=Lib.hid q4
   go_wp2_with (first | (refine wpList_row rfl 34 _ rfl g rfl 34 N (0,0) _ HK5.out.1.1 undN rfl (infS HNS.out.1) ?_) | (refine wpList_store_row rfl 34 _ _ rfl (g + 3) N rfl rfl 34 (nodeA zD none 0 0) HK5.out.1.2 (infS HNS.out.1) HNS.out.1.symm HNS.out.2 ?_) | fail)
   refine bodyPost_ret (v:=.agg N) (results_cell_row rfl _ _ (g + 3) 34 N (0,0) _ rfl (setRow_heap _ _ _ _ _ _ HK5.out.1.2) undN rfl (infS HNS.out.1)) rfl ?_
   exact HNO.out (.inr (.inr (.inr HQ.out))) _ _ HB5.out
 obtain ⟨e1,⟨a1,a2⟩,⟨b1,b2⟩,⟨f1,f2⟩,⟨g2,g3⟩⟩:=HYES.out (by omega) (by omega) (by omega) (by omega)
 have w1 : wrap64 (z2 - z1) = z2 - z1:=by unfold wrap64; omega
 have w2' : wrap64 (z4 - z3) = z4 - z3:=by unfold wrap64; omega
 have HC:=Lib.hid (HGN.out w5 (z2 - z1) (z4 - z3) HB5.out ⟨by omega,by omega⟩ ⟨by omega,by omega⟩)
 rw [← e1] at HC
 clear e1 a1 a2 b1 b2 f1 f2 g2 g3
 go_wp2_with (first | (refine wpList_row rfl 34 _ rfl g rfl 34 N (0,0) _ HK5.out.1.1 undN rfl (infS HNS.out.1) ?_) | (go_at_call 29; refine HC.out.mono ?_; rintro e w6 ⟨A6,c6,rfl,hd6,hs6,hb6⟩; obtain ⟨N6,hN6⟩ : ∃ N,N = nodeA RT.d A6 RT.l.length c6:=⟨_,rfl⟩; rw [nodeV,← hN6]; have hbw : Below W.heap.size W w6:=HB5.out.trans (hb6.mono HB5.out.size); have HN6:=Lib.hid (And.intro hN6 (And.intro hd6 (And.intro hs6 hbw))); have HZ6:=Lib.hid (HKP.out w6 hbw).1.2; have HS6 : Hid (N6.size = 22 ∧ N6.all (·.oneCell') = true):=Lib.hid (by rw [hN6]; exact ⟨rfl,node_one _ _ _ _⟩); clear hN6 hd6 hs6 hb6 hbw) | (refine wpList_store_row rfl 34 _ _ rfl (g + 3) N6 rfl rfl 34 (nodeA zD none 0 0) HZ6.out (infS HS6.out.1) HS6.out.1.symm HS6.out.2 ?_) | fail)
 refine bodyPost_ret (v:=.agg N6) (results_cell_row rfl _ _ (g + 3) 34 N6 (0,0) _ rfl (setRow_heap _ _ _ _ _ _ HZ6.out) undN rfl (infS HS6.out.1)) rfl ?_
 have hbf:=below_row (HB.out.1.trans (HN6.out.2.2.2.mono HB.out.1.size)) HB.out.2 N6
 have hW5 : W.heap.size ≤ w5.heap.size:=HB5.out.size
 refine ⟨A6,c6,by rw [HN6.out.1] <;> rfl,HN6.out.2.1,?_,hbf⟩
 refine SlZ.at_ (Z:=fun k => w5.heap.size ≤ k ∧ k < w6.heap.size) (SlZ.move HN6.out.2.2.1 (fun k h => h) (fun p hp => World.cell?_of_block (setRow_other _ _ _ _ ?_))) (fun k h => by simpa using h.2)
 have hg3 : g + 3 < w5.heap.size:=(Array.getElem?_eq_some_iff.1 HK5.out.1.2).1
 have:=hp.1; omega
end Go.Proofs.YtbkmnboicihchaaGreat
namespace Go.Proofs.YtbkmnboicihchaaGreat
set_option maxRecDepth 100000
set_option maxHeartbeats 2000000
set_option linter.unusedSimpArgs false
set_option linter.unusedVariables false
open Go Go.RowKit Go.Shelf Go.Maps
theorem eqMpI (w : World) : (binOp .eql 90 (.map none) (.map none)).run Tryz.prog w = .ok (.bool true) w:=by kernel_rfl
theorem spot_c {w : World} {p : Nat} {L : IL} {Ai Al : Option Addr} {ci cl : Nat} (h : AxN w p L Ai ci Al cl) (hL : L.Ok) (x : Ik) :
   Calls Tryz.prog 60 #[.pointer (some ⟨p,0,none⟩),.agg #[.int .i64 x.a,.int .i64 x.n]] w fun e w' => e = .returned (.int .i64 (posZ L.ids x)) ∧ Below w.heap.size w w':=by
 obtain ⟨g,hg⟩ : ∃ g,g = w.heap.size:=⟨_,rfl⟩
 obtain ⟨W,hW⟩ : ∃ W,W = w.alloc (.cells #[.int .i64 x.a,.int .i64 x.n] 27):=⟨_,rfl⟩
 have hb : Below w.heap.size w W:=by rw [hW]; exact (Below.refl _ w).alloc (Nat.le_refl _) _
 have hk : W.heap[g]? = some (.cells #[.int .i64 x.a,.int .i64 x.n] 27):=by rw [hW,hg]; exact heap_alloc_new _ _
 have hown:=(hb.block p (Array.getElem?_eq_some_iff.1 h.own).1).trans h.own
 have c2 : W.cell? ⟨p,2,none⟩ = some (.map none):=cell_of_row _ _ 2 _ _ _ hown
 obtain ⟨n,hn⟩ : ∃ n,n = List.length L:=⟨_,rfl⟩
 have c0 : W.cell? ⟨p,0,none⟩ = some (.slice Ai n ci):=by rw [hn]; exact cell_of_row _ _ 0 _ _ _ hown
 have hids : ∀ wx,Below W.heap.size W wx → wx.ownsRow 0 27 2 (.slice Ai n ci) n (ikCells L.ids):=fun wx d => by
   rw [hn]
   refine own_keep h.ids (fun k e => ?_)
   obtain ⟨-,cur,h3⟩:=own_blk h.ids k e
   have hq:=(Array.getElem?_eq_some_iff.1 h3).1
   exact (d.block k (Nat.lt_of_lt_of_le hq hb.size)).trans (hb.block k hq)
 have HIX:=Lib.hid (fun (wx : World) (d : Below W.heap.size W wx) => show Calls Tryz.prog 74 #[.slice Ai n ci,.agg #[.int .i64 x.a,.int .i64 x.n]] wx fun e w' => e = .returned (.int .i64 (posZ L.ids x)) ∧ Below wx.heap.size wx w' from by
   have hl:=IL.ids_len L
   have h1:=hids wx d
   rw [hn,← hl] at h1 ⊢
   exact index_c h1 (by rw [hl]; have:=hL.len; omega) x)
 have hcap : n ≤ ci ∧ ci ≤ 9223372036854775807:=by obtain ⟨_,_,e,h1,h2⟩:=own_parts h.ids; cases e; rw [hn]; exact ⟨h1,h2⟩
 obtain ⟨hc1,hc2⟩:=hcap
 have heq:=eqMpI
 have HX:=Lib.hid (show W.drew.rangeAt g 0 [.int .i64 x.a,.int .i64 x.n] from row_rangeF (show W.drew.heap[g]? = _ from hk))
 have HIL:=Lib.hid (show ∀ a b : Value,(Tryz.prog.info? 27).map (·.size) = some [a,b].length from fun _ _ => infIk)
 have HG:=Lib.hid hg
 have HW:=Lib.hid hW
 have HB:=Lib.hid hb
 clear h hL hg hW hb hk hown hids hn
 obtain ⟨xa,xn⟩:=x
 dsimp only at HX HIX HW ⊢
 go_enter Tryz.func60,Tryz.ntmps60
 go_upto_region 1 with (fail)
 rw [← HW.out,← HG.out]
 go_upto_region 2 with (fail)
 refine wp_region_still_tail 5 (by kernel_rfl) (by kernel_rfl) ?_
 simp only [List.take_succ_cons,List.take_zero,List.drop_succ_cons,List.drop_zero]
 iterate 4 still_step
 refine still_mid rfl 27 _ rfl g 0 rfl [.int .i64 xa,.int .i64 xn] _ HX.out ikUnd rfl (HIL.out _ _) ?_
 (try simp only [Act.put,List.setIfInBounds_toArray,List.set_cons_zero,List.set_cons_succ])
 refine wpStill_nil ?_
 go_wp2_with (go_at_call 74; refine (HIX.out _ (Below.refl _ _).drew).mono ?_; rintro e w1 ⟨rfl,hb1⟩; have HB1:=Lib.hid hb1; clear hb1)
 first | go_ret | go_ret2
 have hb:=HB.out
 exact ⟨rfl,(hb.drew).trans (HB1.out.mono hb.size)⟩
theorem forget_c {w : World} {p : Nat} {vi vl : Value} (h : w.heap[p]? = some (.cells (axCs vi vl none (.slice none 0 0) (.slice none 0 0)) 93)) :
   Calls Tryz.prog 61 #[.pointer (some ⟨p,0,none⟩)] w fun e w' => e = .returned (.tuple #[]) ∧ w'.heap[p]? = w.heap[p]? ∧ KeepA p w w':=by
 have c2 : w.cell? ⟨p,2,none⟩ = some (.map none):=cell_of_row _ _ 2 _ _ _ h
 have f2:=fz_rowA h 2
 have h1:=heap_setCell_same w p 2 _ _ (.map none) h
 have h2:=heap_setCell_same _ p 3 _ _ (.slice none 0 0) h1
 have h3:=heap_setCell_same _ p 4 _ _ (.slice none 0 0) h2
 have hfin : ((((w.setCell ⟨p,2,none⟩ (.map none)).setCell ⟨p,3,none⟩ (.slice none 0 0)).setCell ⟨p,4,none⟩ (.slice none 0 0))).heap[p]? = w.heap[p]?:=by rw [h3,h]; rfl
 have hk : KeepA p w (((w.setCell ⟨p,2,none⟩ (.map none)).setCell ⟨p,3,none⟩ (.slice none 0 0)).setCell ⟨p,4,none⟩ (.slice none 0 0)):=⟨rfl,rfl,rfl,by simp,fun k _ hk => (heap_setCell_other _ _ _ _ hk).trans ((heap_setCell_other _ _ _ _ hk).trans (heap_setCell_other _ _ _ _ hk))⟩
 have c3 : (w.setCell ⟨p,2,none⟩ (.map none)).cell? ⟨p,3,none⟩ = some (.slice none 0 0):=(cell_of_row _ _ 3 _ _ _ h1).trans rfl
 have f3 : (w.setCell ⟨p,2,none⟩ (.map none)).frozen? ⟨p,3,none⟩ = false:=fz_rowA h1 3
 have c4 : ((w.setCell ⟨p,2,none⟩ (.map none)).setCell ⟨p,3,none⟩ (.slice none 0 0)).cell? ⟨p,4,none⟩ = some (.slice none 0 0):=(cell_of_row _ _ 4 _ _ _ h2).trans rfl
 have f4 : ((w.setCell ⟨p,2,none⟩ (.map none)).setCell ⟨p,3,none⟩ (.slice none 0 0)).frozen? ⟨p,4,none⟩ = false:=fz_rowA h2 4
 have HF:=Lib.hid (And.intro hfin hk)
 clear h h1 h2 h3 hfin hk
 go_enter Tryz.func61,Tryz.ntmps61
 go_wp2
 go_end0
 exact ⟨rfl,HF.out⟩
end Go.Proofs.YtbkmnboicihchaaGreat
namespace Go.Proofs.YtbkmnboicihchaaGreat
set_option maxRecDepth 100000
set_option maxHeartbeats 4000000
set_option linter.unusedSimpArgs false
set_option linter.unusedVariables false
open Go Go.RowKit Go.Shelf Go.Maps
theorem posZ_some {l : List Ik} {x : Ik} {k : Nat} (h : placeL l x = some k) : posZ l x = k:=by unfold posZ; rw [h]
theorem posZ_no {l : List Ik} {x : Ik} (h : placeL l x = none) : posZ l x = -1:=by unfold posZ; rw [h]
theorem ZAx.kill_same {w w' : World} {p : Nat} {L : IL} {x : Ik} {Z : Nat → Prop} {Ai Al : Option Addr} {ci cl : Nat} (h : AxN w p L Ai ci Al cl) (hp : Z p) (hi : ∀ k,(Value.slice Ai L.length ci).ownBlock = some k → Z k) (hl : ∀ k,(Value.slice Al L.length cl).ownBlock = some k → Z k) (hk : (kill L x).lives = L.lives) (hb : Below w.heap.size w w') : ZAx w' p (kill L x) Z:=by
 refine ⟨Ai,ci,Al,cl,⟨?_,?_,?_⟩,hp,by rw [kill_len]; exact hi,by rw [kill_len]; exact hl⟩
 · rw [kill_len]; exact (hb.block p (Array.getElem?_eq_some_iff.1 h.own).1).trans h.own
 · rw [kill_len,kill_ids]
   exact own_keep h.ids (fun k e => by obtain ⟨-,cur,h3⟩:=own_blk h.ids k e; exact hb.block k (Array.getElem?_eq_some_iff.1 h3).1)
 · rw [kill_len,hk]
   exact own_keep h.lives (fun k e => by obtain ⟨-,cur,h3⟩:=own_blk h.lives k e; exact hb.block k (Array.getElem?_eq_some_iff.1 h3).1)
theorem turn_c {w : World} {p : Nat} {L : IL} {Z : Nat → Prop} (h : ZAx w p L Z) (hL : L.Ok) (x : Ik) :
   Calls Tryz.prog 45 #[.pointer (some ⟨p,0,none⟩),.agg #[.int .i64 x.a,.int .i64 x.n],.bool false] w fun e w' => ∃ z : Int,e = .returned (.int .i64 z) ∧ ZAx w' p (kill L x) Z ∧ KeepZ Z w w':=by
 obtain ⟨Ai,ci,Al,cl,hA,hp,hi,hl⟩:=h
 obtain ⟨g,hg⟩ : ∃ g,g = w.heap.size:=⟨_,rfl⟩
 obtain ⟨W,hW⟩ : ∃ W,W = w.alloc (.cells #[.int .i64 x.a,.int .i64 x.n] 27):=⟨_,rfl⟩
 have hb : Below w.heap.size w W:=by rw [hW]; exact (Below.refl _ w).alloc (Nat.le_refl _) _
 have hk : W.heap[g]? = some (.cells #[.int .i64 x.a,.int .i64 x.n] 27):=by rw [hW,hg]; exact heap_alloc_new _ _
 have hAW : AxN W p L Ai ci Al cl:=⟨(hb.block p (Array.getElem?_eq_some_iff.1 hA.own).1).trans hA.own,own_keep hA.ids (fun k e => by obtain ⟨-,cur,h3⟩:=own_blk hA.ids k e; exact hb.block k (Array.getElem?_eq_some_iff.1 h3).1),own_keep hA.lives (fun k e => by obtain ⟨-,cur,h3⟩:=own_blk hA.lives k e; exact hb.block k (Array.getElem?_eq_some_iff.1 h3).1)⟩
 have hax : ∀ wx,Below W.heap.size W wx → AxN wx p L Ai ci Al cl:=fun wx d => ⟨(d.block p (Array.getElem?_eq_some_iff.1 hAW.own).1).trans hAW.own,own_keep hAW.ids (fun k e => by obtain ⟨-,cur,h3⟩:=own_blk hAW.ids k e; exact d.block k (Array.getElem?_eq_some_iff.1 h3).1),own_keep hAW.lives (fun k e => by obtain ⟨-,cur,h3⟩:=own_blk hAW.lives k e; exact d.block k (Array.getElem?_eq_some_iff.1 h3).1)⟩
 have HSP:=Lib.hid (spot_c hAW hL x)
 have HIA:=Lib.hid (show ∀ a b : Value,(Tryz.prog.info? 27).map (·.size) = some (#[a,b] : Array Value).size from fun _ _ => infIk)
 have HZ:=Lib.hid (And.intro hp (And.intro hi hl))
 have HL:=Lib.hid hL
 have HAX:=Lib.hid hax
 have HG:=Lib.hid hg
 have HW:=Lib.hid hW
 have HB:=Lib.hid hb
 have HK:=Lib.hid hk
 clear hA hp hi hl hg hW hb hk hAW hax hL
 obtain ⟨xa,xn⟩:=x
 dsimp only at HSP HW HK ⊢
 cases hpl : placeL L.ids ⟨xa,xn⟩ with
 | none =>
   rw [posZ_no hpl] at HSP
   have HPL:=Lib.hid hpl
   clear hpl
   go_enter Tryz.func45,Tryz.ntmps45
   go_upto_region 1 with (fail)
   rw [← HW.out,← HG.out]
   go_wp2_with (first | (refine wpList_row rfl 27 _ rfl g rfl 27 #[.int .i64 xa,.int .i64 xn] (0,0) _ HK.out ikUnd rfl (HIA.out _ _) ?_) | (go_at_call 60; refine HSP.out.mono ?_; rintro e w1 ⟨rfl,hb1⟩; have HB1:=Lib.hid hb1; clear hb1))
   first | go_ret | go_ret2
   refine ⟨_,rfl,?_,KeepZ.of (HB.out.trans (HB1.out.mono HB.out.size))⟩
   rw [kill_none HPL.out]
   exact ⟨Ai,ci,Al,cl,HAX.out _ HB1.out,HZ.out⟩
 | some k =>
   rw [posZ_some hpl] at HSP
   obtain ⟨hki,he⟩:=placeL_some hpl
   have hkl : k < List.length L:=by rw [← IL.ids_len]; exact hki
   have HPL:=Lib.hid hpl
   have HKL:=Lib.hid hkl
   have hlen:=HL.out.len
   obtain ⟨n,hn⟩ : ∃ n,n = List.length L:=⟨_,rfl⟩
   have HN:=Lib.hid hn
   have hkn : k < n:=by rw [hn]; exact hkl
   have hn1 : n ≤ 1000:=by rw [hn]; exact hlen
   obtain ⟨lv,hlv⟩ : ∃ lv,L.lives[k]? = some (.bool lv):=⟨L[k].2,by unfold IL.lives; rw [List.getElem?_map,List.getElem?_eq_getElem hkl]; rfl⟩
   have HLV:=Lib.hid hlv
   clear hpl hki he hkl hlv hlen hn
   go_enter Tryz.func45,Tryz.ntmps45
   go_upto_region 1 with (fail)
   rw [← HW.out,← HG.out]
   go_upto_region 6 with (first | (refine wpList_row rfl 27 _ rfl g rfl 27 #[.int .i64 xa,.int .i64 xn] (0,0) _ HK.out ikUnd rfl (HIA.out _ _) ?_) | (go_at_call 60; refine HSP.out.mono ?_; rintro e w1 ⟨rfl,hb1⟩; have HB1:=Lib.hid hb1; clear hb1))
   have hA1:=HAX.out _ HB1.out
   have c1 : w1.cell? ⟨p,1,none⟩ = some (.slice Al n cl):=by rw [HN.out]; exact cell_of_row _ _ 1 _ _ _ hA1.own
   obtain ⟨gl,hgl,hcl⟩:=own1_at hA1.lives HKL.out HLV.out
   subst hgl
   have hcap : n ≤ cl ∧ cl ≤ 9223372036854775807:=by obtain ⟨_,_,e,h1,h2⟩:=own_parts hA1.lives; cases e; rw [HN.out]; exact ⟨h1,h2⟩
   obtain ⟨hc1,hc2⟩:=hcap
   have hk0 : (0 : Int) ≤ (k : Int):=by omega
   have hk1 : (k : Int) < (n : Int):=by omega
   have hfz : w1.frozen? ⟨gl,k,none⟩ = false:=hA1.lives.frozenAt k
   have HA1:=Lib.hid hA1
   clear hA1
   cases lv with
   | false =>
     go_wp2
     first | go_ret | go_ret2
     have hA1:=HA1.out
     exact ⟨_,rfl,ZAx.kill_same hA1 HZ.out.1 HZ.out.2.1 HZ.out.2.2 (kill_dead HL.out.nodup HPL.out HLV.out) (Below.refl _ _),KeepZ.of (HB.out.trans (HB1.out.mono HB.out.size))⟩
   | true =>
     have hpg : p ≠ gl:=fun e => by
       obtain ⟨-,cur,h3⟩:=own_blk HA1.out.lives gl rfl
       have h4:=HA1.out.own
       rw [e,h3] at h4
       simp only [Option.some.injEq,Obj.cells.injEq] at h4
       exact absurd h4.2.1 (by decide)
     have hown2 : (w1.setCell ⟨gl,k,none⟩ (.bool false)).heap[p]? = some (.cells (axCs (.slice Ai (List.length L) ci) (.slice (some ⟨gl,0,none⟩) (List.length L) cl) none (.slice none 0 0) (.slice none 0 0)) 93):=(heap_setCell_other _ _ _ _ hpg).trans HA1.out.own
     have HFG:=Lib.hid (forget_c hown2)
     have HPG:=Lib.hid hpg
     clear hown2 hpg
     go_wp2_with (go_at_call 61; refine HFG.out.mono ?_; rintro e w3 ⟨rfl,hq3⟩; have HQ3:=Lib.hid hq3; clear hq3)
     first | go_ret | go_ret2
     obtain ⟨hp3,hk3⟩:=HQ3.out
     have hA1:=HA1.out
     have hblk : ∀ k',k' < w1.heap.size → k' ≠ gl → w3.heap[k']? = w1.heap[k']?:=fun k' h1 h2 => by
       by_cases e : k' = p
       · rw [e,hp3]; exact heap_setCell_other _ _ _ _ (by rw [← e]; exact h2)
       · exact (hk3.block k' (by simpa using h1) e).trans (heap_setCell_other _ _ _ _ h2)
     have hst:=(hA1.lives.stored k (.bool false)).1
     have hlv3 : w3.ownsRow 0 4 1 (.slice (some ⟨gl,0,none⟩) (List.length L) cl) (List.length L) (L.lives.set k (.bool false)):=own_keep hst (fun k' e => by
       have : gl = k':=by simpa [Value.ownBlock] using e
       subst this
       exact hk3.block gl (by obtain ⟨-,cur,h3⟩:=own_blk hst gl rfl; exact (Array.getElem?_eq_some_iff.1 h3).1) (Ne.symm HPG.out))
     have hid3 : w3.ownsRow 0 27 2 (.slice Ai (List.length L) ci) (List.length L) (ikCells L.ids):=own_keep hA1.ids (fun k' e => by
       obtain ⟨-,cur,h3⟩:=own_blk hA1.ids k' e
       refine hblk k' (Array.getElem?_eq_some_iff.1 h3).1 (fun e2 => ?_)
       obtain ⟨-,cur2,h4⟩:=own_blk hA1.lives gl rfl
       rw [e2,h4] at h3
       simp only [Option.some.injEq,Obj.cells.injEq] at h3
       exact absurd h3.2.1 (by decide))
     refine ⟨_,rfl,⟨Ai,ci,some ⟨gl,0,none⟩,cl,⟨?_,?_,?_⟩,HZ.out.1,by rw [kill_len]; exact HZ.out.2.1,by rw [kill_len]; exact HZ.out.2.2⟩,?_⟩
     · rw [kill_len,hp3]; exact (heap_setCell_other _ _ _ _ HPG.out).trans hA1.own
     · rw [kill_len,kill_ids]; exact hid3
     · rw [kill_len,kill_lives HL.out.nodup HPL.out]; exact hlv3
     · refine (KeepZ.of (HB.out.trans (HB1.out.mono HB.out.size))).trans ⟨hk3.os,hk3.tape,hk3.output,by simpa using hk3.size,fun k' h1 h2 => hblk k' h1 (fun e => h2 (e ▸ HZ.out.2.2 gl rfl))⟩
theorem delete_c {w : World} {p : Nat} {L : IL} {Z : Nat → Prop} (h : ZAx w p L Z) (hL : L.Ok) (x : Ik) :
   Calls Tryz.prog 18 #[.pointer (some ⟨p,0,none⟩),.agg #[.int .i64 x.a,.int .i64 x.n]] w fun e w' => ∃ z : Int,e = .returned (.int .i64 z) ∧ ZAx w' p (kill L x) Z ∧ KeepZ Z w w':=by
 obtain ⟨g,hg⟩ : ∃ g,g = w.heap.size:=⟨_,rfl⟩
 obtain ⟨W,hW⟩ : ∃ W,W = w.alloc (.cells #[.int .i64 x.a,.int .i64 x.n] 27):=⟨_,rfl⟩
 have hb : Below w.heap.size w W:=by rw [hW]; exact (Below.refl _ w).alloc (Nat.le_refl _) _
 have hk : W.heap[g]? = some (.cells #[.int .i64 x.a,.int .i64 x.n] 27):=by rw [hW,hg]; exact heap_alloc_new _ _
 have hZW : ZAx W p L Z:=by
   obtain ⟨Ai,ci,Al,cl,hA,hp,hi,hl⟩:=h
   exact ⟨Ai,ci,Al,cl,⟨(hb.block p (Array.getElem?_eq_some_iff.1 hA.own).1).trans hA.own,own_keep hA.ids (fun k e => by obtain ⟨-,cur,h3⟩:=own_blk hA.ids k e; exact hb.block k (Array.getElem?_eq_some_iff.1 h3).1),own_keep hA.lives (fun k e => by obtain ⟨-,cur,h3⟩:=own_blk hA.lives k e; exact hb.block k (Array.getElem?_eq_some_iff.1 h3).1)⟩,hp,hi,hl⟩
 have HT:=Lib.hid (turn_c hZW hL x)
 have HIA:=Lib.hid (show ∀ a b : Value,(Tryz.prog.info? 27).map (·.size) = some (#[a,b] : Array Value).size from fun _ _ => infIk)
 have HG:=Lib.hid hg
 have HW:=Lib.hid hW
 have HB:=Lib.hid hb
 have HK:=Lib.hid hk
 clear h hg hW hb hk hZW hL
 obtain ⟨xa,xn⟩:=x
 dsimp only at HT HW HK ⊢
 go_enter Tryz.func18,Tryz.ntmps18
 go_upto_region 1 with (fail)
 rw [← HW.out,← HG.out]
 go_wp2_with (first | (refine wpList_row rfl 27 _ rfl g rfl 27 #[.int .i64 xa,.int .i64 xn] (0,0) _ HK.out ikUnd rfl (HIA.out _ _) ?_) | (go_at_call 45; refine HT.out.mono ?_; rintro e w1 ⟨z,rfl,hq⟩; have HQ:=Lib.hid hq; clear hq))
 first | go_ret | go_ret2
 exact ⟨z,rfl,HQ.out.1,(KeepZ.of HB.out).trans HQ.out.2⟩
end Go.Proofs.YtbkmnboicihchaaGreat
