/- FillShifts,whole. -/
import Derived.Test.YtbkmnboicihchaaGreatGmQeQf
import Derived.Test.YtbkmnboicihchaaGreatGd0M
import Derived.Test.YtbkmnboicihchaaGreatQxM
import Derived.Test.YtbkmnboicihchaaGreatStSqXaNmVr
namespace Go.Proofs.YtbkmnboicihchaaGreat
set_option maxRecDepth 100000
set_option maxHeartbeats 8000000
set_option linter.unusedSimpArgs false
set_option linter.unusedVariables false
open Go Go.RowKit Go.Shelf Go.Maps
noncomputable def shC : Code:=Tryz.f3.body.getD .skip
theorem kills_aliveS : ∀ (l : List Ik) (L : IL),(l.foldl kill L).alive = L.alive.filter fun y => decide (y ∉ l)
 | [],L => (List.filter_eq_self.2 (fun y _ => by simp)).symm
 | x :: l,L => by
   rw [List.foldl_cons,kills_aliveS l (kill L x),kill_alive,List.filter_filter]
   congr 1
   funext y
   by_cases h1 : y = x <;> by_cases h2 : y ∈ l <;> simp [h1,h2]
theorem kills_liveS (m : Nat) (dead : List Ik) : (dead.foldl kill (allL (freshL m))).alive = liveL m dead:=by
 rw [kills_aliveS,allL_alive]; rfl
theorem alive_okS {L : IL} (h : L.Ok) : ∀ x ∈ L.alive,x.ok:=fun x hx => h.ok x (IL.alive_ids hx)
theorem fs6 (u0 u1 u2 u5 u6 u10 u11 u12 u13 u14 u15 u16 u17 u18 u19 u20 u21 u22 u23 u24 u25 u26 u27 u28 u29 u30 u31 u32 u33 u34 u35 u36 u37 u38 u39 u40 u41 u42 u43 u44 u45 u46 u47 u48 : Value) (W : World) (R0 : Ending → World → Prop) (g3 g4 s p q : Nat) (z u : Value) (x0 x1 : Cl) (L M : IL) (t : Tr) (A A1 A2 : Option Addr) (c c1 c2 lo : Nat)
   (hn : W.heap[g3]? = some (.cells (nodeA t.d A t.l.length c) 34)) (hsl : SlAt W lo A c t.l) (hd : t.d.ok) (hsz : t.size ≤ 1048576) (h4 : W.heap[g4]? = some (.cells (x0.vals ++ x1.vals).toArray 37)) (hs : W.heap[s]? = some (.cells #[.pointer (some ⟨p,0,none⟩),.pointer (some ⟨q,0,none⟩),z,u] 54)) (hax : AxW W p L) (hay : AxW W q M) (hpq : p ≠ q) (hL : L.Ok) (hM : M.Ok) (hx : (x0.row.ok ∧ x0.col.ok) ∧ (x1.row.ok ∧ x1.col.ok))
   (hR : W.ownsRow lo 27 2 (.slice A1 L.alive.length c1) L.alive.length (ikCells L.alive)) (hK : W.ownsRow lo 27 2 (.slice A2 M.alive.length c2) M.alive.length (ikCells M.alive))
   (hlo : lo ≤ W.heap.size) (hlp : lo ≤ p ∧ lo ≤ q) (hl3 : g3 < lo ∧ g4 < lo)
   (hret : ∀ w',Below lo W w' → R0 (.returned (.bool true)) w') :
   (fromRegion 6 shC).wp Tryz.prog (bodyPost Tryz.prog Tryz.f3 R0) ⟨#[u0,u1,u2,.pointer (some ⟨g3,0,none⟩),.pointer (some ⟨g4,0,none⟩),u5,u6,.pointer (some ⟨s,0,none⟩),.slice A1 L.alive.length c1,.slice A2 M.alive.length c2,u10,u11,u12,u13,u14,u15,u16,u17,u18,u19,u20,u21,u22,u23,u24,u25,u26,u27,u28,u29,u30,u31,u32,u33,u34,u35,u36,u37,u38,u39,u40,u41,u42,u43,u44,u45,u46,u47,u48],[]⟩ W:=by
 dsimp only
 obtain ⟨N,hN⟩ : ∃ N,N = nodeA t.d A t.l.length c:=⟨_,rfl⟩
 obtain ⟨X,hX⟩ : ∃ l,l = x0.vals:=⟨_,rfl⟩
 obtain ⟨Y,hY⟩ : ∃ l,l = x1.vals:=⟨_,rfl⟩
 obtain ⟨csp,hcp⟩:=hax.own
 obtain ⟨csq,hcq⟩:=hay.own
 have hne : ∀ {b : Nat} {cs : Array Value} {ty : TypeId},W.heap[b]? = some (.cells cs ty) → ty ≠ 93 → ¬ (b = p ∨ b = q):=fun h1 h2 h3 => by
   rcases h3 with rfl | rfl
   · rw [h1] at hcp; cases hcp; exact h2 rfl
   · rw [h1] at hcq; cases hcq; exact h2 rfl
 have hkb : ∀ (wz : World) {b : Nat} {cs : Array Value} {ty : TypeId},KeepZ (fun b => b = p ∨ b = q) W wz → W.heap[b]? = some (.cells cs ty) → ty ≠ 93 → wz.heap[b]? = some (.cells cs ty):=fun wz _ _ _ hk1 h1 h2 => (hk1.block _ (Array.getElem?_eq_some_iff.1 h1).1 (hne h1 h2)).trans h1
 have hlow : ∀ wz,KeepZ (fun b => b = p ∨ b = q) W wz → Below lo W wz:=fun wz h => h.low hlo (fun k hk => hk.elim (fun e => e ▸ hlp.1) (fun e => e ▸ hlp.2))
 have hkr : ∀ (wz : World),KeepZ (fun b => b = p ∨ b = q) W wz → wz.ownsRow lo 27 2 (.slice A1 L.alive.length c1) L.alive.length (ikCells L.alive) ∧ wz.ownsRow lo 27 2 (.slice A2 M.alive.length c2) M.alive.length (ikCells M.alive):=fun wz hk => by
   have hko : ∀ {v : Value} {n : Nat} {xs : List Value},W.ownsRow lo 27 2 v n xs → wz.ownsRow lo 27 2 v n xs:=fun h => own_sameA h (fun k c hg _ => hk.block k (Array.getElem?_eq_some_iff.1 hg).1 (hne hg (by decide)))
   exact ⟨hko hR,hko hK⟩
 have HTR : ∀ wz,KeepZ (fun b => b = p ∨ b = q) W wz → wz.rangeAt g3 0 N.toList ∧ wz.rangeAt g4 0 X ∧ wz.rangeAt g4 4 Y ∧ wz.cell? ⟨s,0,none⟩ = some (.pointer (some ⟨p,0,none⟩)) ∧ wz.cell? ⟨s,1,none⟩ = some (.pointer (some ⟨q,0,none⟩)):=fun wz hS => by
   rw [hX,hY,hN]
   have hs':=hkb wz hS hs (by decide)
   have h4':=two_cells (hkb wz hS h4 (by decide))
   have hn':=hkb wz hS hn (by decide)
   exact ⟨fun i v hv => by rw [Nat.zero_add,cell_of_row _ _ i _ _ _ hn']; simpa using hv,h4'.1,h4'.2,cell_of_row _ _ 0 _ _ _ hs',cell_of_row _ _ 1 _ _ _ hs'⟩
 have HS1 : ∀ wz,Below W.heap.size W wz → Calls Tryz.prog 8 #[.agg N,.agg X.toArray,.agg Y.toArray,.pointer (some ⟨p,0,none⟩),.pointer (some ⟨q,0,none⟩)] wz (ShiftPost p q L M wz (shiftT L.alive M.alive x0 x1 t)):=fun wz hS => by
   rw [hX,hY,hN]
   exact shiftW_c (hax.below hS) (hay.below hS) (fun e => absurd e hpq) hL hM t A c hd (((hsl.below (hS.mono hlo)).more (Nat.le_trans hlo hS.size))) hsz x0 x1 hx.1 hx.2
 have HS2 : ∀ wz,KeepZ (fun b => b = p ∨ b = q) W wz → Calls Tryz.prog 9 #[.agg N,.agg X.toArray,.agg Y.toArray,.slice A1 L.alive.length c1,.slice A2 M.alive.length c2] wz (RShiftPost wz (shiftT L.alive M.alive x0 x1 t)):=fun wz hS => by
   rw [hX,hY,hN]
   have hb:=hlow wz hS
   exact rshift_c (hkr wz hS).1 (hkr wz hS).2 (Nat.le_trans (IL.alive_len L) hL.len) (Nat.le_trans (IL.alive_len M) hM.len) (alive_okS hL) (alive_okS hM) t A c hd ((hsl.below hb).more (Nat.le_trans hlo hS.size)) hsz x0 x1
 obtain ⟨r,hr⟩ : ∃ r,r = shiftT L.alive M.alive x0 x1 t:=⟨_,rfl⟩
 rw [← hr] at HS1 HS2
 have HSM : ∀ wz A5 c5 A6 c6,r.d.ok → SlAt wz wz.heap.size A5 c5 r.l → SlAt wz wz.heap.size A6 c6 r.l → Calls Tryz.prog 7 #[.agg (nodeA r.d A5 r.l.length c5),.agg (nodeA r.d A6 r.l.length c6)] wz (fun e w' => e = .returned (.bool true) ∧ Below wz.heap.size wz w'):=fun wz A5 c5 A6 c6 h1 h2 h3 => by
   have h:=rsame_c r r wz wz.heap.size A5 A6 c5 c6 h1 h2 h1 h3 (Nat.le_refl _)
   rw [(sameB_eq r r).2 rfl] at h
   exact h
 have hln : (Tryz.prog.info? 34).map (·.size) = some N.toList.length:=by rw [hN]; exact infN
 have hlx : (Tryz.prog.info? 36).map (·.size) = some X.length:=by rw [hX]; exact infC4 _ _ _ _
 have hly : (Tryz.prog.info? 36).map (·.size) = some Y.length:=by rw [hY]; exact infC4 _ _ _ _
 obtain ⟨nr,hnr⟩ : ∃ n,n = L.alive.length:=⟨_,rfl⟩
 obtain ⟨nk,hnk⟩ : ∃ n,n = M.alive.length:=⟨_,rfl⟩
 rw [← hnr,← hnk] at HS2 ⊢
 have HRET:=Lib.hid (fun w' h => hret w' (hlow w' h))
 have HTR:=Lib.hid HTR
 have HS1:=Lib.hid HS1
 have HS2:=Lib.hid HS2
 have HSM:=Lib.hid HSM
 have HLN:=Lib.hid hln
 have HLX:=Lib.hid hlx
 have HLY:=Lib.hid hly
 have HC4:=Lib.hid undC4
 clear hn hsl hd hsz h4 hs hax hay hpq hL hM hx hR hK hlo hlp hl3 hret hN hX hY hcp hcq hne hkb hlow hkr hr hln hlx hly hnr hnk
 conv => arg 2; whnf; repeat (arg 2; whnf)
 go_upto_region 6 with (fail)
 refine wp_region_held_drew (S:=fun wz => KeepZ (fun b => b = p ∨ b = q) W wz) (by kernel_rfl) (KeepZ.of (Below.refl _ W).drew) (fun hHeld => ?_)
 refine wpAnyH_take (i:=0) (v:=.agg N) rfl (by kernel_rfl) (by kernel_rfl) (by kernel_rfl) (fun _ _ _ h => h) (yieldsIf_load_mid' (by kernel_rfl) 34 _ rfl g3 0 rfl N _ (fun _ hS => (HTR.out _ hS).1) undN rfl HLN.out) hHeld ?_
 try simp only [sX]
 refine wpAnyH_take (i:=1) (v:=.pointer (some ⟨g4,0,none⟩)) rfl (by kernel_rfl) (by kernel_rfl) (by kernel_rfl) (fun _ _ _ h => h) (Or.inl ⟨by kernel_rfl,fun _ hS => by kernel_rfl⟩) hHeld ?_
 try simp only [sX]
 refine wpAnyH_take (i:=2) (v:=.agg X.toArray) rfl (by kernel_rfl) (by kernel_rfl) (by kernel_rfl) (fun _ _ _ h => h) (yieldsIf_load_mid (by kernel_rfl) 36 _ rfl g4 0 rfl X _ (fun _ hS => (HTR.out _ hS).2.1) HC4.out rfl HLX.out) hHeld ?_
 try simp only [sX]
 refine wpAnyH_take (i:=3) (v:=.pointer (some ⟨g4,4,none⟩)) rfl (by kernel_rfl) (by kernel_rfl) (by kernel_rfl) (fun _ _ _ h => h) (Or.inl ⟨by kernel_rfl,fun _ hS => by kernel_rfl⟩) hHeld ?_
 try simp only [sX]
 refine wpAnyH_take (i:=4) (v:=.agg Y.toArray) rfl (by kernel_rfl) (by kernel_rfl) (by kernel_rfl) (fun _ _ _ h => h) (yieldsIf_load_mid (by kernel_rfl) 36 _ rfl g4 4 rfl Y _ (fun _ hS => (HTR.out _ hS).2.2.1) HC4.out rfl HLY.out) hHeld ?_
 try simp only [sX]
 refine wpAnyH_take (i:=5) (v:=.pointer (some ⟨s,0,none⟩)) rfl (by kernel_rfl) (by kernel_rfl) (by kernel_rfl) (fun _ _ _ h => h) (Or.inl ⟨by kernel_rfl,fun _ hS => by kernel_rfl⟩) hHeld ?_
 try simp only [sX]
 refine wpAnyH_take (i:=6) (v:=.pointer (some ⟨s,0,none⟩)) rfl (by kernel_rfl) (by kernel_rfl) (by kernel_rfl) (fun _ _ _ h => h) (Or.inl ⟨by kernel_rfl,fun _ hS => by kernel_rfl⟩) hHeld ?_
 try simp only [sX]
 refine wpAnyH_take (i:=7) (v:=.pointer (some ⟨s,0,none⟩)) rfl (by kernel_rfl) (by kernel_rfl) (by kernel_rfl) (fun _ _ _ h => h) (Or.inl ⟨by kernel_rfl,fun _ hS => by kernel_rfl⟩) hHeld ?_
 try simp only [sX]
 refine wpAnyH_take (i:=8) (v:=.pointer (some ⟨p,0,none⟩)) rfl (by kernel_rfl) (by kernel_rfl) (by kernel_rfl) (fun _ _ _ h => h) (Or.inl ⟨by kernel_rfl,fun _ hS => ldSh_run _ rfl ⟨s,0,none⟩ rfl _ (HTR.out _ hS).2.2.2.1⟩) hHeld ?_
 try simp only [sX]
 refine wpAnyH_take (i:=9) (v:=.pointer (some ⟨s,0,none⟩)) rfl (by kernel_rfl) (by kernel_rfl) (by kernel_rfl) (fun _ _ _ h => h) (Or.inl ⟨by kernel_rfl,fun _ hS => by kernel_rfl⟩) hHeld ?_
 try simp only [sX]
 refine wpAnyH_take (i:=10) (v:=.pointer (some ⟨s,0,none⟩)) rfl (by kernel_rfl) (by kernel_rfl) (by kernel_rfl) (fun _ _ _ h => h) (Or.inl ⟨by kernel_rfl,fun _ hS => by kernel_rfl⟩) hHeld ?_
 try simp only [sX]
 refine wpAnyH_take (i:=11) (v:=.pointer (some ⟨s,1,none⟩)) rfl (by kernel_rfl) (by kernel_rfl) (by kernel_rfl) (fun _ _ _ h => h) (Or.inl ⟨by kernel_rfl,fun _ hS => by kernel_rfl⟩) hHeld ?_
 try simp only [sX]
 refine wpAnyH_take (i:=12) (v:=.pointer (some ⟨q,0,none⟩)) rfl (by kernel_rfl) (by kernel_rfl) (by kernel_rfl) (fun _ _ _ h => h) (Or.inl ⟨by kernel_rfl,fun _ hS => ldSh_run _ rfl ⟨s,1,none⟩ rfl _ (HTR.out _ hS).2.2.2.2⟩) hHeld ?_
 try simp only [sX]
 refine wpAnyH_take (i:=14) (v:=.agg N) rfl (by kernel_rfl) (by kernel_rfl) (by kernel_rfl) (fun _ _ _ h => h) (yieldsIf_load_mid' (by kernel_rfl) 34 _ rfl g3 0 rfl N _ (fun _ hS => (HTR.out _ hS).1) undN rfl HLN.out) hHeld ?_
 try simp only [sX]
 refine wpAnyH_take (i:=15) (v:=.pointer (some ⟨g4,0,none⟩)) rfl (by kernel_rfl) (by kernel_rfl) (by kernel_rfl) (fun _ _ _ h => h) (Or.inl ⟨by kernel_rfl,fun _ hS => by kernel_rfl⟩) hHeld ?_
 try simp only [sX]
 refine wpAnyH_take (i:=16) (v:=.agg X.toArray) rfl (by kernel_rfl) (by kernel_rfl) (by kernel_rfl) (fun _ _ _ h => h) (yieldsIf_load_mid (by kernel_rfl) 36 _ rfl g4 0 rfl X _ (fun _ hS => (HTR.out _ hS).2.1) HC4.out rfl HLX.out) hHeld ?_
 try simp only [sX]
 refine wpAnyH_take (i:=17) (v:=.pointer (some ⟨g4,4,none⟩)) rfl (by kernel_rfl) (by kernel_rfl) (by kernel_rfl) (fun _ _ _ h => h) (Or.inl ⟨by kernel_rfl,fun _ hS => by kernel_rfl⟩) hHeld ?_
 try simp only [sX]
 refine wpAnyH_take (i:=18) (v:=.agg Y.toArray) rfl (by kernel_rfl) (by kernel_rfl) (by kernel_rfl) (fun _ _ _ h => h) (yieldsIf_load_mid (by kernel_rfl) 36 _ rfl g4 4 rfl Y _ (fun _ hS => (HTR.out _ hS).2.2.1) HC4.out rfl HLY.out) hHeld ?_
 try simp only [sX]
 refine wpAnyH_take (i:=19) (v:=.slice A1 nr c1) rfl (by kernel_rfl) (by kernel_rfl) (by kernel_rfl) (fun _ _ _ h => h) (Or.inl ⟨by kernel_rfl,fun _ hS => by kernel_rfl⟩) hHeld ?_
 try simp only [sX]
 refine wpAnyH_take (i:=20) (v:=.slice A2 nk c2) rfl (by kernel_rfl) (by kernel_rfl) (by kernel_rfl) (fun _ _ _ h => h) (Or.inl ⟨by kernel_rfl,fun _ hS => by kernel_rfl⟩) hHeld ?_
 try simp only [sX]
 have hbel : Below W.heap.size W W.drew:=(Below.refl _ W).drew
 obtain ⟨wa,hwa⟩ : ∃ wa,wa = W.drew:=⟨_,rfl⟩
 rw [← hwa] at hHeld hbel ⊢
 clear hwa
 refine wpAnyH_ready (rs:=[13]) (by kernel_rfl) (by simp) ?_
 refine AllReadyH.cons rfl (fun K hK => ?_) AllReadyH.nil
 go_simp
 refine (HS1.out wa hbel).mono ?_
 rintro e wb ⟨A5,c5,rfl,hdr,hs5,-,-,hkq⟩
 have H5:=Lib.hid (And.intro hdr hs5)
 obtain ⟨N5,hN5⟩ : ∃ N5,N5 = nodeA r.d A5 r.l.length c5:=⟨_,rfl⟩
 rw [nodeV,← hN5]
 have HN5:=Lib.hid hN5
 clear hN5 hdr hs5
 try go_simp
 refine hK.out _ _ (hHeld.trans hkq.z) (fun hHeld1 => ?_)
 clear hK K hHeld
 have hHeld:=hHeld1
 clear hHeld1
 try simp only [sX]
 clear hkq
 refine wpAnyH_ready (rs:=[21]) (by kernel_rfl) (by simp) ?_
 refine AllReadyH.cons rfl (fun K hK => ?_) AllReadyH.nil
 go_simp
 refine (HS2.out wb hHeld).mono ?_
 rintro e wc ⟨A6,c6,rfl,-,hs6,hbn⟩
 obtain ⟨N6,hN6⟩ : ∃ N6,N6 = nodeA r.d A6 r.l.length c6:=⟨_,rfl⟩
 rw [nodeV,← hN6]
 have H6:=Lib.hid (And.intro hN6 (And.intro hs6 ((H5.out.2.below hbn).more hbn.size)))
 clear hN6 hs6
 try go_simp
 refine hK.out _ _ (hHeld.trans (KeepZ.of hbn)) (fun hHeld1 => ?_)
 clear hK K hHeld
 have hHeld:=hHeld1
 clear hHeld1
 try simp only [sX]
 clear hbn
 refine wpAnyH_ready (rs:=[22]) (by kernel_rfl) (by simp) ?_
 refine AllReadyH.cons rfl (fun K hK => ?_) AllReadyH.nil
 go_simp
 have HSC:=HSM.out wc A5 c5 A6 c6 H5.out.1 H6.out.2.2 H6.out.2.1
 rw [← HN5.out,← H6.out.1] at HSC
 refine HSC.mono ?_
 clear HSC
 rintro e wd ⟨rfl,hbn⟩
 try go_simp
 refine hK.out _ _ (hHeld.trans (KeepZ.of hbn)) (fun hHeld1 => ?_)
 clear hK K hHeld
 have hHeld:=hHeld1
 clear hHeld1
 try simp only [sX]
 clear hbn
 refine wpAnyH_take (i:=23) (v:=.bool true) rfl (by kernel_rfl) (by kernel_rfl) (by kernel_rfl) (fun _ _ _ h => h) (Or.inl ⟨by kernel_rfl,fun _ hS => by kernel_rfl⟩) hHeld ?_
 try simp only [sX]
 have HE:=Lib.hid hHeld
 refine wpAnyH_done (by kernel_rfl) ?_ _
 clear hHeld
 go_wp2_with fail
 exact HRET.out _ HE.out
theorem fs_4_6 : fromRegion 6 (fromRegion 4 shC) = fromRegion 6 shC:=by kernel_rfl
theorem fs4 (u0 u1 u2 u5 u6 u11 u12 u13 u14 u15 u16 u17 u18 u19 u20 u21 u22 u23 u24 u25 u26 u27 u28 u29 u30 u31 u32 u33 u34 u35 u36 u37 u38 u39 u40 u41 u42 u43 u44 u45 u46 u47 u48 : Value) (W : World) (R0 : Ending → World → Prop) (g3 g4 s p q : Nat) (z u : Value) (x0 x1 : Cl) (L M : IL) (t : Tr) (A A1 A2 : Option Addr) (c c1 c2 lo : Nat)
   (hn : W.heap[g3]? = some (.cells (nodeA t.d A t.l.length c) 34)) (hsl : SlAt W lo A c t.l) (hd : t.d.ok) (hsz : t.size ≤ 1048576) (h4 : W.heap[g4]? = some (.cells (x0.vals ++ x1.vals).toArray 37)) (hs : W.heap[s]? = some (.cells #[.pointer (some ⟨p,0,none⟩),.pointer (some ⟨q,0,none⟩),z,u] 54)) (hax : AxW W p L) (hay : AxW W q M) (hpq : p ≠ q) (hL : L.Ok) (hM : M.Ok) (hx : (x0.row.ok ∧ x0.col.ok) ∧ (x1.row.ok ∧ x1.col.ok))
   (hR : W.ownsRow lo 27 2 (.slice A1 L.alive.length c1) L.alive.length (ikCells L.alive)) (hK : W.ownsRow lo 27 2 (.slice A2 M.alive.length c2) M.alive.length (ikCells M.alive))
   (hlo : lo ≤ W.heap.size) (hlp : lo ≤ p ∧ lo ≤ q) (hl3 : g3 < lo ∧ g4 < lo)
   (hret : ∀ w',Below lo W w' → R0 (.returned (.bool true)) w') :
   (fromRegion 4 shC).wp Tryz.prog (bodyPost Tryz.prog Tryz.f3 R0) ⟨#[u0,u1,u2,.pointer (some ⟨g3,0,none⟩),.pointer (some ⟨g4,0,none⟩),u5,u6,.pointer (some ⟨s,0,none⟩),.slice A1 L.alive.length c1,.slice A2 M.alive.length c2,.int .i64 1,u11,u12,u13,u14,u15,u16,u17,u18,u19,u20,u21,u22,u23,u24,u25,u26,u27,u28,u29,u30,u31,u32,u33,u34,u35,u36,u37,u38,u39,u40,u41,u42,u43,u44,u45,u46,u47,u48],[]⟩ W:=by
 dsimp only
 have e1:=cut_from 6 (fromRegion 4 shC)
 rw [fs_4_6] at e1
 have hend : ∀ (w' : World) (u0 u1 u2 u5 u6 u10 u11 u12 u13 u14 u15 u16 u17 u18 u19 u20 u21 u22 u23 u24 u25 u26 u27 u28 u29 u30 u31 u32 u33 u34 u35 u36 u37 u38 u39 u40 u41 u42 u43 u44 u45 u46 u47 u48 : Value),Below W.heap.size W w' → (fromRegion 6 shC).wp Tryz.prog (bodyPost Tryz.prog Tryz.f3 R0) ⟨#[u0,u1,u2,.pointer (some ⟨g3,0,none⟩),.pointer (some ⟨g4,0,none⟩),u5,u6,.pointer (some ⟨s,0,none⟩),.slice A1 L.alive.length c1,.slice A2 M.alive.length c2,u10,u11,u12,u13,u14,u15,u16,u17,u18,u19,u20,u21,u22,u23,u24,u25,u26,u27,u28,u29,u30,u31,u32,u33,u34,u35,u36,u37,u38,u39,u40,u41,u42,u43,u44,u45,u46,u47,u48],[]⟩ w':=fun w' u0 u1 u2 u5 u6 u10 u11 u12 u13 u14 u15 u16 u17 u18 u19 u20 u21 u22 u23 u24 u25 u26 u27 u28 u29 u30 u31 u32 u33 u34 u35 u36 u37 u38 u39 u40 u41 u42 u43 u44 u45 u46 u47 u48 hb => by
   have hkb : ∀ {b : Nat} {o : Obj},W.heap[b]? = some o → w'.heap[b]? = some o:=fun h => (hb.block _ (Array.getElem?_eq_some_iff.1 h).1).trans h
   exact fs6 u0 u1 u2 u5 u6 u10 u11 u12 u13 u14 u15 u16 u17 u18 u19 u20 u21 u22 u23 u24 u25 u26 u27 u28 u29 u30 u31 u32 u33 u34 u35 u36 u37 u38 u39 u40 u41 u42 u43 u44 u45 u46 u47 u48 w' R0 g3 g4 s p q z u x0 x1 L M t A A1 A2 c c1 c2 lo (hkb hn) (hsl.below (hb.mono hlo)) hd hsz (hkb h4) (hkb hs) (hax.below hb) (hay.below hb) hpq hL hM hx (own_blk_kp hR hb) (own_blk_kp hK hb) (Nat.le_trans hlo hb.size) hlp hl3 (fun w'' h => hret w'' ((hb.mono hlo).trans h))
 obtain ⟨CO,hCO⟩ : ∃ CO,CO = fromRegion 6 shC:=⟨_,rfl⟩
 rw [← hCO] at e1 hend
 clear hCO
 dsimp only at hend
 obtain ⟨NV,hNV⟩ : ∃ N,N = nodeA t.d A t.l.length c:=⟨_,rfl⟩
 have hG : Calls Tryz.prog 6 #[.agg NV] W fun e w' => e = .returned (.bool (greatB t)) ∧ Below W.heap.size W w':=by
   rw [hNV]; exact great_c t W W.heap.size A c hd (hsl.more hlo) (Nat.le_refl _) hsz
 have hkN : W.heap[g3]? = some (.cells NV 34):=by rw [hNV]; exact hn
 have hinf : (Tryz.prog.info? 34).map (·.size) = some NV.size:=by rw [hNV]; exact infN
 have HEND:=Lib.hid hend
 have HRET:=Lib.hid (fun w' (h : Below W.heap.size W w') => hret w' (h.mono hlo))
 have HG:=Lib.hid hG
 have HIN:=Lib.hid hinf
 have HKN:=Lib.hid hkN
 clear hn hsl hd hsz h4 hs hax hay hpq hL hM hx hR hK hlo hlp hl3 hret hend hG hinf hkN hNV
 generalize L.alive.length = nr at HEND ⊢
 generalize M.alive.length = nk at HEND ⊢
 rw [← e1]
 clear e1
 conv => arg 2; whnf; repeat (arg 2; whnf)
 cases eg : greatB t with
 | true =>
   rw [eg] at HG
   clear eg
   go_wp2_with (first | (refine wpList_row rfl 34 _ rfl g3 rfl 34 NV (0,0) _ HKN.out undN rfl HIN.out ?_) | (go_at_call 6; refine HG.out.mono ?_; rintro e w3 ⟨rfl,hb3⟩; have HB3:=Lib.hid hb3; clear hb3) | fail)
   exact HRET.out _ HB3.out
 | false =>
   rw [eg] at HG
   clear eg
   go_wp2_with (first | (refine wpList_row rfl 34 _ rfl g3 rfl 34 NV (0,0) _ HKN.out undN rfl HIN.out ?_) | (go_at_call 6; refine HG.out.mono ?_; rintro e w3 ⟨rfl,hb3⟩; have HB3:=Lib.hid hb3; clear hb3) | fail)
   exact HEND.out _ _ _ _ _ _ _ _ _ _ _ _ _ _ _ _ _ _ _ _ _ _ _ _ _ _ _ _ _ _ _ _ _ _ _ _ _ _ _ _ _ _ _ _ _ HB3.out
theorem fillShifts_c (t : Tr) (x0 x1 : Cl) (P : Pn) (w : World) (A : Option Addr) (c : Nat) (Adx : Option Addr) (cd : Nat) (Acx : Option Addr) (cc : Nat)
   (hd : t.d.ok) (hs : SlAt w w.heap.size A c t.l) (hsz : t.size ≤ 1048576) (hx : (x0.row.ok ∧ x0.col.ok) ∧ (x1.row.ok ∧ x1.col.ok)) (hr : P.rows < 256) (hc : P.cols < 256) (hdd : AdSl w w.heap.size Adx cd P.dead) (hce : ACSl w w.heap.size Acx cc P.cells) :
   Calls Tryz.prog 3 #[nodeV t.d A t.l.length c,.agg (x0.vals ++ x1.vals).toArray,.agg (P.val Adx cd Acx cc)] w fun e w' => e = .returned (.bool true) ∧ Below w.heap.size w w':=by
 obtain ⟨g,hg⟩ : ∃ g,g = w.heap.size:=⟨_,rfl⟩
 obtain ⟨NV,hNV⟩ : ∃ N,N = nodeA t.d A t.l.length c:=⟨_,rfl⟩
 obtain ⟨XV,hXV⟩ : ∃ N,N = (x0.vals ++ x1.vals).toArray:=⟨_,rfl⟩
 obtain ⟨PV,hPV⟩ : ∃ N,N = P.val Adx cd Acx cc:=⟨_,rfl⟩
 obtain ⟨W,hW⟩ : ∃ W,W = ((w.alloc (.cells NV 34)).alloc (.cells XV 37)).alloc (.cells PV 41):=⟨_,rfl⟩
 have hbW : Below w.heap.size w W:=by rw [hW]; exact (((Below.refl _ w).alloc (Nat.le_refl _) _).alloc (by simp) _).alloc (by simp; omega) _
 have hk0 : W.heap[g]? = some (.cells NV 34) ∧ W.heap[g + 1]? = some (.cells XV 37) ∧ W.heap[g + 2]? = some (.cells PV 41):=by
   rw [hW,hg]
   refine ⟨?_,?_,?_⟩ <;> (simp only [heapAllocIf,World.size_alloc]; repeat (first | rw [if_pos trivial] | rw [if_pos (by omega)] | rw [if_neg (by omega)]))
 have hWs : W.heap.size = g + 3:=by rw [hW,hg]; simp
 have hinP : (Tryz.prog.info? 41).map (·.size) = some PV.size:=by rw [hPV]; kernel_rfl
 have hunP : Tryz.prog.underlying 41 = some (.struct (Tryz.prog.fieldsOf 41)):=by kernel_rfl
 have hBD : ∀ wx,Below W.heap.size W wx → wx.heap[g + 2]? = some (.cells PV 41) ∧ Calls Tryz.prog 5 #[.agg PV] wx (BuiltPost P wx):=fun wx h => by
   have hbx:=hbW.trans (h.mono hbW.size)
   refine ⟨(h.block _ (by omega)).trans hk0.2.2,?_⟩
   rw [hPV]
   exact build_c P wx Adx cd Acx cc hr hc (hdd.below hbx hbx.size) (hce.below hbx hbx.size)
 have hFB : ∀ (w1 W2 : World) (s p q ce na n : Nat) (A1 A2 : Option Addr) (c1 c2 : Nat) (C : List (Ad × Ct)) (Zr Zc Zs : Nat → Prop), Below W.heap.size W w1 → Below w1.heap.size w1 W2 → ShZ W2 w1.heap.size s p q ce na n ((P.dead.map Ad.row).foldl kill (allL (freshL (P.rows % 10)))) ((P.dead.map Ad.col).foldl kill (allL (freshL (P.cols % 10)))) C Zr Zc Zs →
     W2.ownsRow w1.heap.size 27 2 (.slice A1 (liveL (P.rows % 10) (P.dead.map Ad.row)).length c1) (liveL (P.rows % 10) (P.dead.map Ad.row)).length (ikCells (liveL (P.rows % 10) (P.dead.map Ad.row))) → W2.ownsRow w1.heap.size 27 2 (.slice A2 (liveL (P.cols % 10) (P.dead.map Ad.col)).length c2) (liveL (P.cols % 10) (P.dead.map Ad.col)).length (ikCells (liveL (P.cols % 10) (P.dead.map Ad.col))) →
     ∀ (u0 u1 u2 u5 u6 u11 u12 u13 u14 u15 u16 u17 u18 u19 u20 u21 u22 u23 u24 u25 u26 u27 u28 u29 u30 u31 u32 u33 u34 u35 u36 u37 u38 u39 u40 u41 u42 u43 u44 u45 u46 u47 u48 : Value),(fromRegion 4 shC).wp Tryz.prog (bodyPost Tryz.prog Tryz.f3 (fun e w' => e = .returned (.bool true) ∧ Below w.heap.size w w')) ⟨#[u0,u1,u2,.pointer (some ⟨g,0,none⟩),.pointer (some ⟨g + 1,0,none⟩),u5,u6,.pointer (some ⟨s,0,none⟩),.slice A1 (liveL (P.rows % 10) (P.dead.map Ad.row)).length c1,.slice A2 (liveL (P.cols % 10) (P.dead.map Ad.col)).length c2,.int .i64 1,u11,u12,u13,u14,u15,u16,u17,u18,u19,u20,u21,u22,u23,u24,u25,u26,u27,u28,u29,u30,u31,u32,u33,u34,u35,u36,u37,u38,u39,u40,u41,u42,u43,u44,u45,u46,u47,u48],[]⟩ W2:=by
   intro w1 W2 s p q ce na n A1 A2 c1 c2 C Zr Zc Zs hb1 hb2 hsh hlr hlc u0 u1 u2 u5 u6 u11 u12 u13 u14 u15 u16 u17 u18 u19 u20 u21 u22 u23 u24 u25 u26 u27 u28 u29 u30 u31 u32 u33 u34 u35 u36 u37 u38 u39 u40 u41 u42 u43 u44 u45 u46 u47 u48
   have hbx:=hbW.trans (hb1.mono hbW.size)
   have hg1 : g + 3 ≤ w1.heap.size:=by have:=hb1.size; omega
   have hkx : ∀ {b : Nat} {cs : Array Value} {ty : TypeId},b < g + 3 → W.heap[b]? = some (.cells cs ty) → W2.heap[b]? = some (.cells cs ty):=fun h1 h2 => (hb2.block _ (by omega)).trans ((hb1.block _ (by omega)).trans h2)
   obtain ⟨a1,a2,a3⟩:=hsh.apart
   have hL6:=built_Ok P.rows (P.dead.map Ad.row)
   have hM6:=built_Ok P.cols (P.dead.map Ad.col)
   have eL:=kills_liveS (P.rows % 10) (P.dead.map Ad.row)
   have eM:=kills_liveS (P.cols % 10) (P.dead.map Ad.col)
   have hr4:=hsh.rows.ax
   have hc4:=hsh.cols.ax
   have hso:=hsh.own
   rw [← eL] at hlr ⊢
   rw [← eM] at hlc ⊢
   generalize (P.dead.map Ad.row).foldl kill (allL (freshL (P.rows % 10))) = L at hlr hr4 hL6 ⊢
   generalize (P.dead.map Ad.col).foldl kill (allL (freshL (P.cols % 10))) = M at hlc hc4 hM6 ⊢
   have hs1 : SlAt w1 w1.heap.size A c t.l:=(hs.below hbx).more hbx.size
   exact fs4 u0 u1 u2 u5 u6 u11 u12 u13 u14 u15 u16 u17 u18 u19 u20 u21 u22 u23 u24 u25 u26 u27 u28 u29 u30 u31 u32 u33 u34 u35 u36 u37 u38 u39 u40 u41 u42 u43 u44 u45 u46 u47 u48 W2 (fun e w' => e = .returned (.bool true) ∧ Below w.heap.size w w') g (g + 1) s p q _ _ x0 x1 L M t A A1 A2 c c1 c2 w1.heap.size (by rw [← hNV]; exact hkx (by omega) hk0.1) (hs1.below hb2) hd hsz (by rw [← hXV]; exact hkx (by omega) hk0.2.1) hso hr4 hc4 a1 hL6 hM6 hx hlr hlc hb2.size ⟨a2,a3⟩ ⟨by omega,by omega⟩ (fun w' h => ⟨rfl,hbx.trans ((hb2.trans h).mono hbx.size)⟩)
 dsimp only at hFB
 have HFB:=Lib.hid hFB
 have HAW:=Lib.hid (awake28_c W)
 have HBD:=Lib.hid hBD
 have HINP:=Lib.hid hinP
 have HUNP:=Lib.hid hunP
 have HW:=Lib.hid hW
 have HG:=Lib.hid hg
 have HBW:=Lib.hid hbW
 rw [nodeV,← hNV,← hXV,← hPV]
 clear hFB hBD hinP hunP hW hg hbW hk0 hWs hNV hXV hPV hd hs hsz hx hr hc hdd hce
 go_enter Tryz.func3,Tryz.ntmps3
 have e4:=cut_from 4 shC
 obtain ⟨CO,hCO⟩ : ∃ C,C = fromRegion 4 shC:=⟨_,rfl⟩
 rw [← hCO] at e4
 have HCO:=Lib.hid hCO
 clear hCO
 change Code.wp Tryz.prog shC _ _ _
 rw [← e4]
 clear e4
 conv => arg 2; whnf; repeat (arg 2; whnf)
 go_upto_region 1 with (fail)
 change Code.wp _ _ _ _ (((w.alloc (.cells NV 34)).alloc (.cells XV 37)).alloc (.cells PV 41))
 rw [← HW.out,← HG.out]
 go_wp2_with (first | (go_at_call 4; refine HAW.out.mono ?_; rintro e w1 ⟨rfl,hb⟩; have HB:=Lib.hid hb; clear hb) | (refine wpList_row rfl 41 _ rfl (g + 2) rfl 41 PV (0,0) _ (HBD.out _ HB.out).1 HUNP.out rfl HINP.out ?_) | (go_at_call 5; refine (HBD.out _ HB.out).2.mono ?_; rintro e w2 hbp; obtain ⟨v7,v8,v9,k,rfl,hbb,hk⟩:=built_form hbp; have HBB:=Lib.hid hbb; have HKK:=Lib.hid hk; clear hbp hbb hk) | fail)
 rw [HCO.out]
 rcases HKK.out with hk | ⟨hk,s,p,q,ce,na,n,A1,c1,A2,c2,C,Zr,Zc,Zs,h7,h8,h9,hsh,hlr,hlc⟩
 · subst hk
   clear HFB HKK
   conv => arg 2; whnf; repeat (arg 2; whnf)
   go_wp2
   first | go_ret | go_ret2
   exact ⟨rfl,HBW.out.trans ((HB.out.trans (HBB.out.mono HB.out.size)).mono HBW.out.size)⟩
 · subst hk h7 h8 h9
   exact HFB.out w1 w2 s p q ce na n A1 A2 c1 c2 C Zr Zc Zs HB.out HBB.out hsh hlr hlc _ _ _ _ _ _ _ _ _ _ _ _ _ _ _ _ _ _ _ _ _ _ _ _ _ _ _ _ _ _ _ _ _ _ _ _ _ _ _ _ _ _ _
end Go.Proofs.YtbkmnboicihchaaGreat
