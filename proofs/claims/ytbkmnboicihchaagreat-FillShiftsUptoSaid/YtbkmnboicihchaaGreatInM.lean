/- fill.Shift's second closure: a node goes its way. -/
import Derived.Test.YtbkmnboicihchaaGreatIlIm
namespace Go.Proofs.YtbkmnboicihchaaGreat
set_option maxRecDepth 100000
set_option maxHeartbeats 4000000
set_option linter.unusedSimpArgs false
set_option linter.unusedVariables false
open Go Go.RowKit Go.Shelf Go.Maps
def goneF (wy : Wy) (t : Tr) : Tr:=match goneD wy t.d with | none => .mk lostND [] | some d' => .mk d' t.l
theorem mapT_gone (wy : Wy) (t : Tr) : mapT (goneF wy) t = goneT wy t:=by
 induction t using Tr.ind with
 | _ d l ih =>
   rw [mapT_mk,goneT_mk]
   have e : l.map (mapT (goneF wy)) = l.map (goneT wy):=List.map_congr_left ih
   rw [e]
   rfl
theorem goneX_ok {l : List Ik} (hl : ∀ x ∈ l,x.ok) {d : Int} {f : Bool} {y y' : Ik} (hy : y.ok) (h : goneX l d f y = some y') : y'.ok:=by
 unfold goneX at h
 cases f with
 | true => rw [if_pos rfl] at h; rw [← Option.some.inj h]; exact hy
 | false =>
   rw [if_neg (by decide)] at h
   rcases goneI_some h with ⟨-,rfl⟩ | ⟨p,q,hp,hq,-,-,rfl⟩
   · exact hy
   · exact hl _ (List.getElem_mem hq)
theorem Cn.ok_iff (c : Cn) : c.ok ↔ c.row'.ok ∧ c.col'.ok:=⟨fun h => ⟨⟨h.1,h.2.1⟩,h.2.2.1,h.2.2.2⟩,fun h => ⟨h.1.1,h.1.2,h.2.1,h.2.2⟩⟩
theorem goneC_ok {wy : Wy} (hr : ∀ x ∈ wy.rows,x.ok) (hc : ∀ x ∈ wy.cols,x.ok) {c c' : Cn} (h0 : c.ok) (h : goneC wy c = some c') : c'.ok:=by
 obtain ⟨r,k,h1,h2,rfl⟩:=goneC_some h
 obtain ⟨h3,h4⟩:=(Cn.ok_iff c).1 h0
 exact (Cn.ok_iff _).2 ⟨goneX_ok hr h3 h1,goneX_ok hc h4 h2⟩
theorem goneC_get {wy : Wy} {c c' : Cn} (h : goneC wy c = some c') {r k : Ik} (hr : r = (goneX wy.rows wy.down c.fr c.row').getD ⟨0,0⟩) (hk : k = (goneX wy.cols wy.right c.fc c.col').getD ⟨0,0⟩) : c' = c.put' r k:=by
 obtain ⟨r',k',h1,h2,rfl⟩:=goneC_some h
 rw [h1] at hr
 rw [h2] at hk
 subst hr
 subst hk
 rfl
theorem lost_ok : lostND.ok:=by
 refine ⟨?_,⟨?_,?_,?_,?_,?_⟩,?_,⟨?_,?_,?_,?_⟩,⟨?_,?_,?_,?_⟩,?_⟩ <;> decide
theorem put_a {d : ND} {A : Option Addr} {n c : Nat} (r k : Ik) : (((((nodeA d A n c).setIfInBounds 8 (.int .i64 r.a)).setIfInBounds (8 + 1) (.int .i64 r.n)).setIfInBounds (8 + 2) (.int .i64 k.a)).setIfInBounds (8 + 3) (.int .i64 k.n)) = nodeA { d with a:=d.a.put' r k } A n c:=rfl
theorem put_b {d : ND} {A : Option Addr} {n c : Nat} (r k : Ik) : (((((nodeA d A n c).setIfInBounds 14 (.int .i64 r.a)).setIfInBounds (14 + 1) (.int .i64 r.n)).setIfInBounds (14 + 2) (.int .i64 k.a)).setIfInBounds (14 + 3) (.int .i64 k.n)) = nodeA { d with b:=d.b.put' r k } A n c:=rfl
theorem infV6 : ∀ a b c d e f : Value,(Tryz.prog.info? 25).map (·.size) = some (#[a,b,c,d,e,f] : Array Value).size:=fun _ _ _ _ _ _ => by kernel_rfl
theorem undVl' : Tryz.prog.underlying 25 = some (.struct (Tryz.prog.fieldsOf 25)):=by kernel_rfl
theorem bad_c (w : World) : Calls Tryz.prog 27 #[.int .i64 3] w fun e w' => e = .returned (.agg #[.int .i64 4,.int .i64 0,.int .i64 0,.string ⟨#[]⟩,.bool false,.int .i64 3]) ∧ Below w.heap.size w w':=by
 obtain ⟨g,hg⟩ : ∃ g,g = w.heap.size:=⟨_,rfl⟩
 have hk : (w.alloc (.cells #[.int .i64 0,.int .i64 0,.int .i64 0,.string ⟨#[]⟩,.bool false,.int .i64 0] 25)).heap[g]? = some (.cells #[.int .i64 0,.int .i64 0,.int .i64 0,.string ⟨#[]⟩,.bool false,.int .i64 0] 25):=by rw [hg]; exact heap_alloc_new _ _
 have hb : Below w.heap.size w (w.alloc (.cells #[.int .i64 0,.int .i64 0,.int .i64 0,.string ⟨#[]⟩,.bool false,.int .i64 0] 25)):=(Below.refl _ w).alloc (Nat.le_refl _) _
 have HG:=Lib.hid hg
 have HK:=Lib.hid hk
 have HB:=Lib.hid hb
 have HI:=Lib.hid infV6
 clear hg hk hb
 go_enter Tryz.func27,Tryz.ntmps27
 go_upto_region 1 with (fail)
 rw [← HG.out]
 obtain ⟨W,hW⟩ : ∃ W,W = w.alloc (.cells #[.int .i64 0,.int .i64 0,.int .i64 0,.string ⟨#[]⟩,.bool false,.int .i64 0] 25):=⟨_,rfl⟩
 have HK2 : Hid (W.heap[g]? = some (.cells #[.int .i64 0,.int .i64 0,.int .i64 0,.string ⟨#[]⟩,.bool false,.int .i64 0] 25)):=Lib.hid (by rw [hW]; exact HK.out)
 have HB2 : Hid (Below w.heap.size w W):=Lib.hid (by rw [hW]; exact HB.out)
 change Code.wp _ _ _ _ (w.alloc (.cells #[.int .i64 0,.int .i64 0,.int .i64 0,.string ⟨#[]⟩,.bool false,.int .i64 0] 25))
 rw [← hW]
 clear hW HK HB
 go_wp2_with (first | (refine wpList_buildSome rfl 25 _ rfl #[.int .i64 4,.int .i64 0,.int .i64 0,.string ⟨#[]⟩,.bool false,.int .i64 3] ?_ ?_; focus (kernel_rfl)) | (refine wpList_store_row rfl 25 _ _ rfl g #[.int .i64 4,.int .i64 0,.int .i64 0,.string ⟨#[]⟩,.bool false,.int .i64 3] rfl rfl 25 #[.int .i64 0,.int .i64 0,.int .i64 0,.string ⟨#[]⟩,.bool false,.int .i64 0] HK2.out (HI.out _ _ _ _ _ _) rfl (by kernel_rfl) ?_) | fail)
 refine bodyPost_ret (v:=.agg #[.int .i64 4,.int .i64 0,.int .i64 0,.string ⟨#[]⟩,.bool false,.int .i64 3]) (results_cell_row rfl _ _ g 25 #[.int .i64 4,.int .i64 0,.int .i64 0,.string ⟨#[]⟩,.bool false,.int .i64 3] (0,0) _ rfl (setRow_heap _ _ _ _ _ _ HK2.out) undVl' rfl (HI.out _ _ _ _ _ _)) rfl ?_
 exact ⟨rfl,below_row HB2.out (by rw [HG.out]; exact Nat.le_refl _) _⟩
theorem shiftF_c {w0 : World} {bG bR bD bC bE p q : Nat} {L M : IL} {dn rt : Int} (hJ0 : GoJ w0 bR bD bC bE p q L M dn rt) (hbG : w0.heap[bG]? = some (.cells #[.func (.func 24) #[] #[.pointer (some ⟨bR, 0, none⟩), .pointer (some ⟨bD, 0, none⟩), .pointer (some ⟨bC, 0, none⟩), .pointer (some ⟨bE, 0, none⟩)]] 84))
   (hL : L.Ok) (hM : M.Ok) (hdn : -1000000 ≤ dn ∧ dn ≤ 1000000) (hrt : -1000000 ≤ rt ∧ rt ≤ 1000000) :
   FOk Tryz.prog 26 #[.pointer (some ⟨bG,0,none⟩)] (goneF ⟨L.alive,M.alive,dn,rt⟩) w0.heap.size (fun _ w => Below w0.heap.size w0 w):=by
 intro k wx d l A c G hj hlo hd hs hG hl
 have hor : ∀ x ∈ L.alive,x.ok:=fun x hx => hL.ok x (IL.alive_ids hx)
 have hoc : ∀ x ∈ M.alive,x.ok:=fun x hx => hM.ok x (IL.alive_ids hx)
 have hend : ∀ w',Below wx.heap.size wx w' → SlG w' G A c l ∧ Below w0.heap.size w0 w' ∧ wx.heap.size ≤ w'.heap.size ∧ (∀ b,w0.heap.size ≤ b → b < wx.heap.size → w'.heap[b]? = wx.heap[b]?):=fun w' hb =>
   ⟨hs.keep (fun b o hg => hg) (fun b o hg i _ => World.cell?_of_block (a:=⟨b,o + i,none⟩) (hb.block b (hG b o hg).2)),hj.trans (hb.mono hlo),hb.size,fun b _ h => hb.block b h⟩
 have hlost : goneD ⟨L.alive,M.alive,dn,rt⟩ d = none → ∀ w',Below wx.heap.size wx w' → ∃ A' c',(Ending.returned (.agg (nodeA lostND none 0 0)) : Ending) = .returned (nodeV (goneF ⟨L.alive,M.alive,dn,rt⟩ (.mk d l)).d A' (goneF ⟨L.alive,M.alive,dn,rt⟩ (.mk d l)).l.length c') ∧ (goneF ⟨L.alive,M.alive,dn,rt⟩ (.mk d l)).d.ok ∧ SlG w' G A' c' (goneF ⟨L.alive,M.alive,dn,rt⟩ (.mk d l)).l ∧ Below w0.heap.size w0 w' ∧ wx.heap.size ≤ w'.heap.size ∧ (∀ b,w0.heap.size ≤ b → b < wx.heap.size → w'.heap[b]? = wx.heap[b]?):=by
   intro hn w' hb
   have e : goneF ⟨L.alive,M.alive,dn,rt⟩ (.mk d l) = .mk lostND []:=by
     unfold goneF; show (match goneD _ d with | none => _ | some d' => _) = _; rw [hn]
   rw [e]
   obtain ⟨h1,h2,h3,h4⟩:=hend w' hb
   exact ⟨none,0,rfl,lost_ok,⟨Nat.le_refl _,by omega,.inl rfl⟩,h2,h3,h4⟩
 have hstay : ∀ d',goneD ⟨L.alive,M.alive,dn,rt⟩ d = some d' → d'.ok → ∀ w',Below wx.heap.size wx w' → ∃ A' c',(Ending.returned (.agg (nodeA d' A l.length c)) : Ending) = .returned (nodeV (goneF ⟨L.alive,M.alive,dn,rt⟩ (.mk d l)).d A' (goneF ⟨L.alive,M.alive,dn,rt⟩ (.mk d l)).l.length c') ∧ (goneF ⟨L.alive,M.alive,dn,rt⟩ (.mk d l)).d.ok ∧ SlG w' G A' c' (goneF ⟨L.alive,M.alive,dn,rt⟩ (.mk d l)).l ∧ Below w0.heap.size w0 w' ∧ wx.heap.size ≤ w'.heap.size ∧ (∀ b,w0.heap.size ≤ b → b < wx.heap.size → w'.heap[b]? = wx.heap[b]?):=by
   intro d' hn hok w' hb
   have e : goneF ⟨L.alive,M.alive,dn,rt⟩ (.mk d l) = .mk d' l:=by
     unfold goneF; show (match goneD _ d with | none => _ | some d' => _) = _; rw [hn]; rfl
   rw [e]
   obtain ⟨h1,h2,h3,h4⟩:=hend w' hb
   exact ⟨A,c,rfl,hok,h1,h2,h3,h4⟩
 obtain ⟨n,hn⟩ : ∃ n,n = l.length:=⟨_,rfl⟩
 obtain ⟨N,hN⟩ : ∃ N,N = nodeA d A n c:=⟨_,rfl⟩
 obtain ⟨W,hW⟩ : ∃ W,W = (wx.alloc (.cells N 34)).alloc (.cells (nodeA zD none 0 0) 34):=⟨_,rfl⟩
 obtain ⟨g,hg⟩ : ∃ g,g = wx.heap.size:=⟨_,rfl⟩
 have hWs : W.heap.size = g + 2:=by rw [hW,hg]; simp
 have hk0 : W.heap[g]? = some (.cells N 34):=by rw [hW,hg]; exact (heapOld _ _ _ (by simp)).trans (heap_alloc_new _ _)
 have hk1 : W.heap[g + 1]? = some (.cells (nodeA zD none 0 0) 34):=by
   rw [hW,hg]; have:=heap_alloc_new (wx.alloc (.cells N 34)) (.cells (nodeA zD none 0 0) 34); rwa [World.size_alloc] at this
 have hbW : Below wx.heap.size wx W:=by rw [hW]; exact ((Below.refl _ wx).alloc (Nat.le_refl _) _).alloc (by simp) _
 have hjW : Below w0.heap.size w0 W:=hj.trans (hbW.mono hlo)
 have hNs : N.size = 22:=by rw [hN]; rfl
 have hcK : W.cell? ⟨g,0,none⟩ = some (.int .i64 d.kind):=by rw [Lib.cell_of_heap hk0,hN]; rfl
 have hcG : W.cell? ⟨bG,0,none⟩ = some (.func (.func 24) #[] #[.pointer (some ⟨bR,0,none⟩),.pointer (some ⟨bD,0,none⟩),.pointer (some ⟨bC,0,none⟩),.pointer (some ⟨bE,0,none⟩)]):=by
   rw [Lib.cell_of_heap ((hjW.block bG (Array.getElem?_eq_some_iff.1 hbG).1).trans hbG)]; rfl
 have hgo : ∀ (W1 : World) (d1 : ND),Below w0.heap.size w0 W1 → W1.heap[g]? = some (.cells (nodeA d1 A n c) 34) → d1.ok → True:=fun _ _ _ _ _ => trivial
 have hda:=(Cn.ok_iff d.a).1 hd.2.2.2.1
 have hdb:=(Cn.ok_iff d.b).1 hd.2.2.2.2.1
 have HGA:=Lib.hid (goes_c (o:=8) hJ0 (by rw [hg]; exact hlo : w0.heap.size ≤ g) hjW hL hM hdn hrt (by rw [hk0,hN]) d.a hda rfl rfl rfl rfl rfl rfl)
 have HGB:=Lib.hid (fun (W1 : World) (d1 : ND) (h1 : Below w0.heap.size w0 W1) (h2 : W1.heap[g]? = some (.cells (nodeA { d with a:=d1.a } A n c) 34)) => goes_c (o:=14) hJ0 (by rw [hg]; exact hlo : w0.heap.size ≤ g) h1 hL hM hdn hrt h2 d.b hdb rfl rfl rfl rfl rfl rfl)
 rw [nodeV,← hn,← hN]
 rw [← hn] at hstay
 have hkb : ∀ (W1 : World),KeepA g W W1 → Below wx.heap.size wx W1 ∧ W1.heap[g + 1]? = some (.cells (nodeA zD none 0 0) 34) ∧ Below w0.heap.size w0 W1 ∧ W1.cell? ⟨bG,0,none⟩ = W.cell? ⟨bG,0,none⟩:=fun W1 hk => by
   have hb : Below wx.heap.size wx W1:=⟨hk.os.trans hbW.os,hk.tape.trans hbW.tape,hk.output.trans hbW.output,Nat.le_trans hbW.size hk.size,fun b hb => (hk.block b (Nat.lt_of_lt_of_le hb hbW.size) (by omega)).trans (hbW.block b hb)⟩
   have hbGl : bG < w0.heap.size:=(Array.getElem?_eq_some_iff.1 hbG).1
   exact ⟨hb,(hk.block (g + 1) (by omega) (by omega)).trans hk1,hj.trans (hb.mono hlo),World.cell?_of_block (a:=⟨bG,0,none⟩) (hk.block bG (by have:=hbW.size; omega) (by omega))⟩
 have HKB:=Lib.hid hkb
 have HBAD:=Lib.hid bad_c
 have HEND:=Lib.hid (fun (W1 : World) (cs : Array Value) (h : Below wx.heap.size wx W1) => show Below wx.heap.size wx (W1.setRow (g + 1) cs) from below_row h (by omega) _)
 have HBW:=Lib.hid hbW
 have HW:=Lib.hid hW
 have HG:=Lib.hid hg
 have HK0:=Lib.hid hk0
 have HK1:=Lib.hid hk1
 have HN:=Lib.hid hN
 have HNS:=Lib.hid hNs
 have HNo : Hid (N.all (·.oneCell') = true):=Lib.hid (by rw [hN]; exact node_one _ _ _ _)
 have HLOST:=Lib.hid hlost
 have HSTAY:=Lib.hid hstay
 have HD:=Lib.hid hd
 have HOR:=Lib.hid (And.intro hor hoc)
 have hLN : ∃ LN,LN = nodeA lostND none 0 0:=⟨_,rfl⟩
 obtain ⟨LN,hLN⟩:=hLN
 rw [← hLN] at HLOST
 have HLN:=Lib.hid hLN
 have HLS : Hid (LN.size = 22):=Lib.hid (by rw [hLN]; rfl)
 have HLO : Hid (LN.all (·.oneCell') = true):=Lib.hid (by rw [hLN]; exact node_one _ _ _ _)
 have HDO:=Lib.hid (show ∀ d1 : ND,(nodeA d1 A n c).size = 22 ∧ (nodeA d1 A n c).all (·.oneCell') = true from fun d1 => ⟨rfl,node_one _ _ _ _⟩)
 have HPG:=Lib.hid (show ∀ c' r k,goneC ⟨L.alive,M.alive,dn,rt⟩ d.a = some c' → r = (goneX L.alive dn d.a.fr d.a.row').getD ⟨0,0⟩ → k = (goneX M.alive rt d.a.fc d.a.col').getD ⟨0,0⟩ → d.a.put' r k = c' from fun c' r k h1 h2 h3 => (goneC_get h1 h2 h3).symm)
 have HPH:=Lib.hid (show ∀ c' r k,goneC ⟨L.alive,M.alive,dn,rt⟩ d.b = some c' → r = (goneX L.alive dn d.b.fr d.b.row').getD ⟨0,0⟩ → k = (goneX M.alive rt d.b.fc d.b.col').getD ⟨0,0⟩ → d.b.put' r k = c' from fun c' r k h1 h2 h3 => (goneC_get h1 h2 h3).symm)
 clear hj hlo hs hG hl hend hlost hstay hn hN hW hg hWs hk0 hk1 hbW hjW hNs hgo hda hdb hkb hor hoc hJ0 hbG hL hM hdn hrt hLN hd
 go_enter Tryz.func26,Tryz.ntmps26
 go_upto_region 1 with (first | (refine wpList_nodeVar rfl rfl (wx.heap.size + 1) (by simp) ?_; change wpList _ _ _ _ _ ((wx.alloc (.cells N 34)).alloc (.cells (nodeA zD none 0 0) 34)); rw [← HW.out]) | fail)
 rw [← HG.out]
 obtain ⟨kd,hkd⟩ : ∃ kd,d.kind = kd:=⟨_,rfl⟩
 rw [hkd] at hcK
 have HKD:=Lib.hid hkd
 clear hkd
 by_cases h1 : kd = 1
 · subst h1
   cases hga : goneC ⟨L.alive,M.alive,dn,rt⟩ d.a with
   | none =>
     rw [hga,Option.isSome_none] at HGA
     have HLOST:=Lib.hid (HLOST.out (by unfold goneD; rw [HKD.out,if_pos (by decide),hga]; rfl))
     clear hga HSTAY HPG HPH HGB
     go_upto_region 8 with (first | (go_at_call 24; refine HGA.out.mono ?_; rintro e w1 ⟨r,k,hr,hk,rfl,hN1,hK1⟩; have HC1:=Lib.hid (And.intro hr (And.intro hk (And.intro hN1 hK1))); clear hr hk hN1 hK1) | fail)
     obtain ⟨hb1,hz1,-,-⟩:=HKB.out w1 HC1.out.2.2.2
     have HZ1:=Lib.hid hz1
     have HB1:=Lib.hid hb1
     clear hz1 hb1 hcK hcG
     go_wp2_with (first | (go_at_call 27; refine (HBAD.out _).mono ?_; rintro e w9 ⟨rfl,hb9⟩; have HB9:=Lib.hid hb9; clear hb9) | (refine wpList_buildSome rfl 34 _ rfl LN ?_ ?_; focus (rw [HLN.out]; kernel_rfl)) | (refine wpList_store_row rfl 34 _ _ rfl (g + 1) LN rfl rfl 34 (nodeA zD none 0 0) ((HB9.out.block (g + 1) (Array.getElem?_eq_some_iff.1 HZ1.out).1).trans HZ1.out) (infS HLS.out) HLS.out.symm HLO.out ?_) | fail)
     refine bodyPost_ret (v:=.agg LN) (results_cell_row rfl _ _ (g + 1) 34 LN (0,0) _ rfl (setRow_heap _ _ _ _ _ _ ((HB9.out.block (g + 1) (Array.getElem?_eq_some_iff.1 HZ1.out).1).trans HZ1.out)) undN rfl (infS HLS.out)) rfl ?_
     exact HLOST.out _ (HEND.out _ _ (HB1.out.trans (HB9.out.mono HB1.out.size)))
   | some a' =>
     rw [hga,Option.isSome_some] at HGA
     have HSTAY:=Lib.hid (HSTAY.out { d with a:=a' } (by unfold goneD; rw [HKD.out,if_pos (by decide),hga]; rfl) ⟨HD.out.1,HD.out.2.1,HD.out.2.2.1,goneC_ok HOR.out.1 HOR.out.2 HD.out.2.2.2.1 hga,HD.out.2.2.2.2⟩)
     have HPG:=Lib.hid (HPG.out a' · · hga)
     clear hga HLOST HPH HGB
     go_upto_region 8 with (first | (go_at_call 24; refine HGA.out.mono ?_; rintro e w1 ⟨r,k,hr,hk,rfl,hN1,hK1⟩; have HC1:=Lib.hid (And.intro hr (And.intro hk (And.intro hN1 hK1))); clear hr hk hN1 hK1) | fail)
     obtain ⟨hb1,hz1,-,-⟩:=HKB.out w1 HC1.out.2.2.2
     have HZ1:=Lib.hid hz1
     have HB1:=Lib.hid hb1
     obtain ⟨D1,hD1⟩ : ∃ D1 : ND,D1 = { d with a:=a' }:=⟨_,rfl⟩
     rw [← hD1] at HSTAY
     have HN1 : Hid (w1.heap[g]? = some (.cells (nodeA D1 A n c) 34)):=Lib.hid (by rw [HC1.out.2.2.1,put_a,HPG.out _ _ HC1.out.1 HC1.out.2.1,hD1])
     clear hz1 hb1 hcK hcG hD1
     go_wp2_with (first | (refine wpList_row rfl 34 _ rfl g rfl 34 (nodeA D1 A n c) (0,0) _ HN1.out undN rfl (infS (HDO.out D1).1) ?_) | (refine wpList_store_row rfl 34 _ _ rfl (g + 1) (nodeA D1 A n c) rfl rfl 34 (nodeA zD none 0 0) HZ1.out (infS (HDO.out D1).1) rfl (HDO.out D1).2 ?_) | fail)
     refine bodyPost_ret (v:=.agg (nodeA D1 A n c)) (results_cell_row rfl _ _ (g + 1) 34 (nodeA D1 A n c) (0,0) _ rfl (setRow_heap _ _ _ _ _ _ HZ1.out) undN rfl (infS (HDO.out D1).1)) rfl ?_
     exact HSTAY.out _ (HEND.out _ _ HB1.out)
 by_cases h3 : kd = 3
 · subst h3
   cases hga : goneC ⟨L.alive,M.alive,dn,rt⟩ d.a with
   | none =>
     rw [hga,Option.isSome_none] at HGA
     have HLOST:=Lib.hid (HLOST.out (by unfold goneD; rw [HKD.out,if_pos (by decide),hga]; rfl))
     clear hga HSTAY HPG HPH HGB
     go_upto_region 8 with (first | (go_at_call 24; refine HGA.out.mono ?_; rintro e w1 ⟨r,k,hr,hk,rfl,hN1,hK1⟩; have HC1:=Lib.hid (And.intro hr (And.intro hk (And.intro hN1 hK1))); clear hr hk hN1 hK1) | fail)
     obtain ⟨hb1,hz1,-,-⟩:=HKB.out w1 HC1.out.2.2.2
     have HZ1:=Lib.hid hz1
     have HB1:=Lib.hid hb1
     clear hz1 hb1 hcK hcG
     go_wp2_with (first | (go_at_call 27; refine (HBAD.out _).mono ?_; rintro e w9 ⟨rfl,hb9⟩; have HB9:=Lib.hid hb9; clear hb9) | (refine wpList_buildSome rfl 34 _ rfl LN ?_ ?_; focus (rw [HLN.out]; kernel_rfl)) | (refine wpList_store_row rfl 34 _ _ rfl (g + 1) LN rfl rfl 34 (nodeA zD none 0 0) ((HB9.out.block (g + 1) (Array.getElem?_eq_some_iff.1 HZ1.out).1).trans HZ1.out) (infS HLS.out) HLS.out.symm HLO.out ?_) | fail)
     refine bodyPost_ret (v:=.agg LN) (results_cell_row rfl _ _ (g + 1) 34 LN (0,0) _ rfl (setRow_heap _ _ _ _ _ _ ((HB9.out.block (g + 1) (Array.getElem?_eq_some_iff.1 HZ1.out).1).trans HZ1.out)) undN rfl (infS HLS.out)) rfl ?_
     exact HLOST.out _ (HEND.out _ _ (HB1.out.trans (HB9.out.mono HB1.out.size)))
   | some a' =>
     rw [hga,Option.isSome_some] at HGA
     have HSTAY:=Lib.hid (HSTAY.out { d with a:=a' } (by unfold goneD; rw [HKD.out,if_pos (by decide),hga]; rfl) ⟨HD.out.1,HD.out.2.1,HD.out.2.2.1,goneC_ok HOR.out.1 HOR.out.2 HD.out.2.2.2.1 hga,HD.out.2.2.2.2⟩)
     have HPG:=Lib.hid (HPG.out a' · · hga)
     clear hga HLOST HPH HGB
     go_upto_region 8 with (first | (go_at_call 24; refine HGA.out.mono ?_; rintro e w1 ⟨r,k,hr,hk,rfl,hN1,hK1⟩; have HC1:=Lib.hid (And.intro hr (And.intro hk (And.intro hN1 hK1))); clear hr hk hN1 hK1) | fail)
     obtain ⟨hb1,hz1,-,-⟩:=HKB.out w1 HC1.out.2.2.2
     have HZ1:=Lib.hid hz1
     have HB1:=Lib.hid hb1
     obtain ⟨D1,hD1⟩ : ∃ D1 : ND,D1 = { d with a:=a' }:=⟨_,rfl⟩
     rw [← hD1] at HSTAY
     have HN1 : Hid (w1.heap[g]? = some (.cells (nodeA D1 A n c) 34)):=Lib.hid (by rw [HC1.out.2.2.1,put_a,HPG.out _ _ HC1.out.1 HC1.out.2.1,hD1])
     clear hz1 hb1 hcK hcG hD1
     go_wp2_with (first | (refine wpList_row rfl 34 _ rfl g rfl 34 (nodeA D1 A n c) (0,0) _ HN1.out undN rfl (infS (HDO.out D1).1) ?_) | (refine wpList_store_row rfl 34 _ _ rfl (g + 1) (nodeA D1 A n c) rfl rfl 34 (nodeA zD none 0 0) HZ1.out (infS (HDO.out D1).1) rfl (HDO.out D1).2 ?_) | fail)
     refine bodyPost_ret (v:=.agg (nodeA D1 A n c)) (results_cell_row rfl _ _ (g + 1) 34 (nodeA D1 A n c) (0,0) _ rfl (setRow_heap _ _ _ _ _ _ HZ1.out) undN rfl (infS (HDO.out D1).1)) rfl ?_
     exact HSTAY.out _ (HEND.out _ _ HB1.out)
 by_cases h2 : kd = 2
 · subst h2
   have HCG:=Lib.hid hcG
   cases hga : goneC ⟨L.alive,M.alive,dn,rt⟩ d.a with
   | none =>
     rw [hga,Option.isSome_none] at HGA
     have HLOST:=Lib.hid (HLOST.out (by unfold goneD; rw [HKD.out,if_neg (by decide),if_pos rfl,hga]))
     clear hga HSTAY HPG HPH HGB
     go_upto_region 8 with (first | (go_at_call 24; refine HGA.out.mono ?_; rintro e w1 ⟨r,k,hr,hk,rfl,hN1,hK1⟩; have HC1:=Lib.hid (And.intro hr (And.intro hk (And.intro hN1 hK1))); clear hr hk hN1 hK1) | fail)
     obtain ⟨hb1,hz1,-,-⟩:=HKB.out w1 HC1.out.2.2.2
     have HZ1:=Lib.hid hz1
     have HB1:=Lib.hid hb1
     clear hz1 hb1 hcK hcG
     go_wp2_with (first | (go_at_call 27; refine (HBAD.out _).mono ?_; rintro e w9 ⟨rfl,hb9⟩; have HB9:=Lib.hid hb9; clear hb9) | (refine wpList_buildSome rfl 34 _ rfl LN ?_ ?_; focus (rw [HLN.out]; kernel_rfl)) | (refine wpList_store_row rfl 34 _ _ rfl (g + 1) LN rfl rfl 34 (nodeA zD none 0 0) ((HB9.out.block (g + 1) (Array.getElem?_eq_some_iff.1 HZ1.out).1).trans HZ1.out) (infS HLS.out) HLS.out.symm HLO.out ?_) | fail)
     refine bodyPost_ret (v:=.agg LN) (results_cell_row rfl _ _ (g + 1) 34 LN (0,0) _ rfl (setRow_heap _ _ _ _ _ _ ((HB9.out.block (g + 1) (Array.getElem?_eq_some_iff.1 HZ1.out).1).trans HZ1.out)) undN rfl (infS HLS.out)) rfl ?_
     exact HLOST.out _ (HEND.out _ _ (HB1.out.trans (HB9.out.mono HB1.out.size)))
   | some a' =>
     rw [hga,Option.isSome_some] at HGA
     have HPG:=Lib.hid (HPG.out a' · · hga)
     have HGB:=Lib.hid (fun W1 => HGB.out W1 { d with a:=a' })
     cases hgb : goneC ⟨L.alive,M.alive,dn,rt⟩ d.b with
     | none =>
       rw [hgb,Option.isSome_none] at HGB
       have HLOST:=Lib.hid (HLOST.out (by unfold goneD; rw [HKD.out,if_neg (by decide),if_pos rfl,hga,hgb]))
       clear hga hgb HSTAY HPH
       go_upto_region 8 with (first | (go_at_call_of 24 (Value.pointer (some ⟨g,8,none⟩)); refine HGA.out.mono ?_; rintro e w1 ⟨r,k,hr,hk,rfl,hN1,hK1⟩; have HC1:=Lib.hid (And.intro hr (And.intro hk (And.intro hN1 hK1))); clear hr hk hN1 hK1; have hcG1:=(HKB.out w1 HC1.out.2.2.2).2.2.2.trans HCG.out) | (go_at_call_of 24 (Value.pointer (some ⟨g,14,none⟩)); refine (HGB.out w1 (HKB.out w1 HC1.out.2.2.2).2.2.1 (HC1.out.2.2.1.trans (by rw [put_a,HPG.out _ _ HC1.out.1 HC1.out.2.1]))).mono ?_; rintro e w2 ⟨r2,k2,hr2,hk2,rfl,hN2,hK2⟩; have HC2:=Lib.hid (And.intro hr2 (And.intro hk2 (And.intro hN2 hK2))); clear hr2 hk2 hN2 hK2) | fail)
       obtain ⟨hb1,hz1,-,-⟩:=HKB.out w2 (HC1.out.2.2.2.trans HC2.out.2.2.2)
       have HZ1:=Lib.hid hz1
       have HB1:=Lib.hid hb1
       clear hz1 hb1 hcK hcG hcG1
       go_wp2_with (first | (go_at_call 27; refine (HBAD.out _).mono ?_; rintro e w9 ⟨rfl,hb9⟩; have HB9:=Lib.hid hb9; clear hb9) | (refine wpList_buildSome rfl 34 _ rfl LN ?_ ?_; focus (rw [HLN.out]; kernel_rfl)) | (refine wpList_store_row rfl 34 _ _ rfl (g + 1) LN rfl rfl 34 (nodeA zD none 0 0) ((HB9.out.block (g + 1) (Array.getElem?_eq_some_iff.1 HZ1.out).1).trans HZ1.out) (infS HLS.out) HLS.out.symm HLO.out ?_) | fail)
       refine bodyPost_ret (v:=.agg LN) (results_cell_row rfl _ _ (g + 1) 34 LN (0,0) _ rfl (setRow_heap _ _ _ _ _ _ ((HB9.out.block (g + 1) (Array.getElem?_eq_some_iff.1 HZ1.out).1).trans HZ1.out)) undN rfl (infS HLS.out)) rfl ?_
       exact HLOST.out _ (HEND.out _ _ (HB1.out.trans (HB9.out.mono HB1.out.size)))
     | some b' =>
       rw [hgb,Option.isSome_some] at HGB
       have HSTAY:=Lib.hid (HSTAY.out { d with a:=a',b:=b' } (by unfold goneD; rw [HKD.out,if_neg (by decide),if_pos rfl,hga,hgb]) ⟨HD.out.1,HD.out.2.1,HD.out.2.2.1,goneC_ok HOR.out.1 HOR.out.2 HD.out.2.2.2.1 hga,goneC_ok HOR.out.1 HOR.out.2 HD.out.2.2.2.2.1 hgb,HD.out.2.2.2.2.2⟩)
       have HPH:=Lib.hid (HPH.out b' · · hgb)
       clear hga hgb HLOST
       go_upto_region 8 with (first | (go_at_call_of 24 (Value.pointer (some ⟨g,8,none⟩)); refine HGA.out.mono ?_; rintro e w1 ⟨r,k,hr,hk,rfl,hN1,hK1⟩; have HC1:=Lib.hid (And.intro hr (And.intro hk (And.intro hN1 hK1))); clear hr hk hN1 hK1; have hcG1:=(HKB.out w1 HC1.out.2.2.2).2.2.2.trans HCG.out) | (go_at_call_of 24 (Value.pointer (some ⟨g,14,none⟩)); refine (HGB.out w1 (HKB.out w1 HC1.out.2.2.2).2.2.1 (HC1.out.2.2.1.trans (by rw [put_a,HPG.out _ _ HC1.out.1 HC1.out.2.1]))).mono ?_; rintro e w2 ⟨r2,k2,hr2,hk2,rfl,hN2,hK2⟩; have HC2:=Lib.hid (And.intro hr2 (And.intro hk2 (And.intro hN2 hK2))); clear hr2 hk2 hN2 hK2) | fail)
       obtain ⟨hb1,hz1,-,-⟩:=HKB.out w2 (HC1.out.2.2.2.trans HC2.out.2.2.2)
       have HZ1:=Lib.hid hz1
       have HB1:=Lib.hid hb1
       obtain ⟨D1,hD1⟩ : ∃ D1 : ND,D1 = { d with a:=a',b:=b' }:=⟨_,rfl⟩
       rw [← hD1] at HSTAY
       have HN1 : Hid (w2.heap[g]? = some (.cells (nodeA D1 A n c) 34)):=Lib.hid (by rw [HC2.out.2.2.1,put_b,HPH.out _ _ HC2.out.1 HC2.out.2.1,hD1])
       clear hz1 hb1 hcK hcG hcG1 hD1
       go_wp2_with (first | (refine wpList_row rfl 34 _ rfl g rfl 34 (nodeA D1 A n c) (0,0) _ HN1.out undN rfl (infS (HDO.out D1).1) ?_) | (refine wpList_store_row rfl 34 _ _ rfl (g + 1) (nodeA D1 A n c) rfl rfl 34 (nodeA zD none 0 0) HZ1.out (infS (HDO.out D1).1) rfl (HDO.out D1).2 ?_) | fail)
       refine bodyPost_ret (v:=.agg (nodeA D1 A n c)) (results_cell_row rfl _ _ (g + 1) 34 (nodeA D1 A n c) (0,0) _ rfl (setRow_heap _ _ _ _ _ _ HZ1.out) undN rfl (infS (HDO.out D1).1)) rfl ?_
       exact HSTAY.out _ (HEND.out _ _ HB1.out)
 have HSTAY:=Lib.hid (HSTAY.out d (by unfold goneD; rw [HKD.out,if_neg (by omega),if_neg h2]) HD.out)
 have HN1 : Hid (W.heap[g]? = some (.cells (nodeA d A n c) 34)):=Lib.hid (by rw [HK0.out,HN.out])
 have HZ1:=HK1
 clear HLOST HPG HPH HGA HGB
 go_wp2_with (first | (refine wpList_row rfl 34 _ rfl g rfl 34 (nodeA d A n c) (0,0) _ HN1.out undN rfl (infS (HDO.out d).1) ?_) | (refine wpList_store_row rfl 34 _ _ rfl (g + 1) (nodeA d A n c) rfl rfl 34 (nodeA zD none 0 0) HZ1.out (infS (HDO.out d).1) rfl (HDO.out d).2 ?_) | fail)
 refine bodyPost_ret (v:=.agg (nodeA d A n c)) (results_cell_row rfl _ _ (g + 1) 34 (nodeA d A n c) (0,0) _ rfl (setRow_heap _ _ _ _ _ _ HZ1.out) undN rfl (infS (HDO.out d).1)) rfl ?_
 exact HSTAY.out _ (HEND.out _ _ HBW.out)
end Go.Proofs.YtbkmnboicihchaaGreat
