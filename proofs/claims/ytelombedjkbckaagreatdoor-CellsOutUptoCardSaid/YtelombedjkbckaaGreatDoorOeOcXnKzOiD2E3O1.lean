/- Put of a store of cells that has no map: any content that isn't empty. Get of a store of cells,any content. Put of a store of cells that is full; of nothing. All but a zone of blocks stays. No program in sight. Put of a store of cells: what may not be,what is empty; all cases,by zones. Cells that are put,one behind the other: plain laws. CellsTurned: what its loop asks of single operations. CellsOut: two stores that lie apart; their Puts. -/
import Derived.Test.YtelombedjkbckaaGreatDoorTw
import Derived.Test.YtelombedjkbckaaGreatDoorXfOdXg
import Derived.Test.YtelombedjkbckaaGreatDoorMpOaObC2D1Xe
import Derived.StillTailTactics
import Derived.Test.YtelombedjkbckaaGreatDoorNd
namespace Go.Proofs.YtelombedjkbckaaGreatDoor
set_option maxRecDepth 100000
set_option maxHeartbeats 4000000
set_option linter.unusedSimpArgs false
set_option linter.unusedVariables false
open Go Go.RowKit Go.Shelf Go.Maps
theorem put_noneC (w : World) (p : Nat) (n : Nat) (D : DataW Value) (h : StAt w p none n D) (a : Ad) (ha : a.ok) (his : a.is = true) (x : Ct) (A : Option Addr) (c : Nat) (hx1 : x.k ≠ 0) (hr : rightC x = true) (hv : x.v.ok) (hd : x.t.d.ok) (B : Nat) (hs : SlAt w B A c x.t.l) (hB : B ≤ w.heap.size) (hsz : x.t.size ≤ 1048576) :
 Calls Tryz.prog 13 #[.pointer (some ⟨p,0,none⟩),a.val,contV x A c] w fun e w' => e = .returned (.int .i64 0) ∧ ∃ g A2 c2,w.heap.size ≤ g ∧ g < w'.heap.size ∧ StAt w' p (some g) 1 (D.put a.key (.held (contV (cpC x) A2 c2))) ∧ SlG w' (fun b _ => w.heap.size ≤ b ∧ b < w'.heap.size ∧ b ≠ g) A2 c2 (cpC x).t.l ∧ KeepP p none w w':=by
 obtain ⟨ra,rn,ca,cn⟩:=a
 obtain ⟨W0,hW0⟩ : ∃ W0,W0 = (w.alloc (.cells #[.int .i64 ra,.int .i64 rn,.int .i64 ca,.int .i64 cn] 30)).alloc (.cells (contA x A c) 43):=⟨_,rfl⟩
 have hbel : Below w.heap.size w W0:=by rw [hW0]; exact ((Below.refl _ w).alloc (Nat.le_refl _) _).alloc (by simp) _
 have hz0 : W0.heap.size = w.heap.size + 2:=by rw [hW0]; simp
 have hk0 : W0.heap[w.heap.size]? = some (.cells #[.int .i64 ra,.int .i64 rn,.int .i64 ca,.int .i64 cn] 30):=by rw [hW0]; exact (heapOld _ _ _ (by simp)).trans (heap_alloc_new _ _)
 have hk1 : W0.heap[w.heap.size + 1]? = some (.cells (contA x A c) 43):=by
  rw [hW0]
  have:=heap_alloc_new (w.alloc (.cells #[.int .i64 ra,.int .i64 rn,.int .i64 ca,.int .i64 cn] 30)) (.cells (contA x A c) 43)
  rwa [World.size_alloc] at this
 have hpl : p < w.heap.size:=(Jg h.1).1
 have hD : D = .map []:=h.2
 have hst : ∀ wx,Below W0.heap.size W0 wx → StAt wx p none n D:=fun wx hx => (h.below hbel).below hx
 have hI : ∀ wx,Calls Tryz.prog 32 #[.agg #[.int .i64 ra,.int .i64 rn,.int .i64 ca,.int .i64 cn]] wx fun e w' => e = .returned (.bool true) ∧ Below wx.heap.size wx w':=fun wx => by have:=isCell_c ra rn ca cn wx; rw [show isCellB ra rn ca cn = true from his] at this; exact this
 have hR : ∀ wx,Below W0.heap.size W0 wx → Calls Tryz.prog 24 #[contV x A c] wx fun e w' => e = .returned (.bool true) ∧ Below wx.heap.size wx w':=fun wx hx => by
  have:=cright_c x wx B A c hv hd ((hs.below (hbel.mono hB)).below (hx.mono (by omega))) (by have:=hx.size; omega) (by omega)
  rwa [hr] at this
 have hcp:=fun (wx : World) (hx : KeepP p none w wx) => copied_any x wx A c hd ((SlAt.keepP h.1 (show (1 : Nat) < 22 by decide) h.no_cell hB hx hs).more (Nat.le_trans hB hx.size)) hsz
 obtain ⟨kx,hkx⟩ : ∃ kx,kx = x.k:=⟨_,rfl⟩
 have hq0 : ¬ kx = 0:=by rw [hkx]; exact hx1
 have hkk : ∀ wx,Below W0.heap.size W0 wx → wx.cell? ⟨w.heap.size + 1,0,none⟩ = some (.int .i64 kx):=fun wx hx => by rw [hkx]; exact (cont_row ((hx.block (w.heap.size + 1) (by omega)).trans hk1)).1
 have hka : ∀ wx,Below W0.heap.size W0 wx → wx.heap[w.heap.size + 1]? = some (.cells (contA x A c) 43):=fun wx hx => (hx.block (w.heap.size + 1) (by omega)).trans hk1
 have hkb : ∀ wx,Below W0.heap.size W0 wx → wx.heap[w.heap.size]? = some (.cells #[.int .i64 ra,.int .i64 rn,.int .i64 ca,.int .i64 cn] 30):=fun wx hx => (hx.block w.heap.size (by omega)).trans hk0
 have hix : (Tryz.prog.info? 43).map (·.size) = some (contA x A c).size:=infC
 obtain ⟨y,hy⟩ : ∃ y,y = cpC x:=⟨_,rfl⟩
 rw [contV] at hR
 simp only [contV] at hcp
 rw [← hy] at hcp ⊢
 obtain ⟨CA,hCA⟩ : ∃ C,C = contA x A c:=⟨_,rfl⟩
 obtain ⟨b,hb⟩ : ∃ b,b = w.heap.size:=⟨_,rfl⟩
 rw [show contV x A c = .agg CA by rw [hCA]]
 simp only [← hCA] at hka hR hcp hix hW0
 have hil : (Tryz.prog.info? 43).map (·.size) = some CA.toList.length:=by rw [Array.length_toList]; exact hix
 rw [← hb] at hka hkb hkk hpl hz0
 simp only [Ad.val]
 have HW0:=Jh hW0
 have HST:=Jh hst
 have HI:=Jh hI
 have HR:=Jh hR
 have HCP:=Jh hcp
 have HKK:=Jh hkk
 have HKA:=Jh hka
 have HKB:=Jh hkb
 have HIX:=Jh hix
 have HIL:=Jh hil
 have HA:=Jh ha
 have HB:=Jh hb
 have HBEL:=Jh hbel
 have HDD:=Jh hD
 have HPL:=Jh hpl
 have HZ:=Jh hz0
 clear hW0 hst hI hR hcp hkk hka hkb hix hil ha hb hbel hk0 hk1 hCA hs hd hv hr hx1 hkx h his hsz hD hy hpl hz0 hB
 have hb00 : Below W0.heap.size W0 W0:=Below.refl _ _
 have hrgb : ∀ wx,Below W0.heap.size W0 wx → wx.rangeAt b 0 [.int .i64 ra,.int .i64 rn,.int .i64 ca,.int .i64 cn]:=fun wx hx => ad_range (HKB.out wx hx)
 have HRGB:=Jh hrgb
 clear hrgb
 go_enter Tryz.func13,Tryz.ntmps13
 go_upto_region 1 with (fail)
 rw [← HW0.out,← HB.out]
 go_wp2_with (first | (refine wpList_mid rfl 30 _ rfl b 0 rfl _ _ (HRGB.out _ hb00) undCell rfl infCell ?_) | (go_at_call 32; refine (HI.out W0).mono ?_; rintro e w1 ⟨rfl,hb1⟩) | (refine wpList_row rfl 43 _ rfl (b + 1) rfl 43 CA (0,0) _ (HKA.out _ hb1) undC rfl HIX.out ?_) | (go_at_call 24; refine (HR.out _ hb1).mono ?_; rintro e w2 ⟨rfl,hbr⟩; have hb2:=hb1.trans (hbr.mono hb1.size); have hkc:=HKK.out _ hb2))
 clear hb1 hbr hb00 hkc
 obtain ⟨cs,hl0,hcs,hcz,hco⟩:=look_st (HST.out w2 hb2) ⟨ra,rn,ca,cn⟩ HA.out
 have hl : ∀ wx,Below w2.heap.size w2 wx → (Instr.lookup 60 (.map none) (.agg #[.int .i64 ra,.int .i64 rn,.int .i64 ca,.int .i64 cn]) true).run Tryz.prog wx = .ok (.tuple #[.agg cs,.bool false]) wx:=fun wx hx => by
  obtain ⟨cs',hl',hv',-⟩:=look_st (HST.out wx (hb2.trans (hx.mono hb2.size))) ⟨ra,rn,ca,cn⟩ HA.out
  rw [hcs] at hv'
  obtain rfl : cs = cs':=by injection hv' with hv'; injection hv'
  rw [HDD.out] at hl'
  exact hl'
 have hcw : ∀ wx,Below w2.heap.size w2 wx → wx.cell? ⟨p,0,none⟩ = some (.map none):=fun wx hx => cell_of_row _ _ 0 _ _ _ (HST.out wx (hb2.trans (hx.mono hb2.size))).1
 have hrg : ∀ wx,Below w2.heap.size w2 wx → wx.rangeAt b 0 [.int .i64 ra,.int .i64 rn,.int .i64 ca,.int .i64 cn]:=fun wx hx => HRGB.out wx (hb2.trans (hx.mono hb2.size))
 have hs1 : Below w2.heap.size w2 (w2.drew.alloc (.cells (contA zCt none 0) 43)):=(Below.refl _ _).drew.alloc (Nat.le_refl _) _
 have hs2 : Below w2.heap.size w2 (w2.drew.alloc (.cells cs 43)):=(Below.refl _ _).drew.alloc (Nat.le_refl _) _
 have hixc : (Tryz.prog.info? 43).map (·.size) = some cs.size:=by rw [hcz]; exact infC
 have hzc : (contA zCt none 0).size = cs.size:=by rw [hcz]; rfl
 obtain ⟨q,hq⟩ : ∃ q,w2.drew.heap.size = q:=⟨_,rfl⟩
 obtain ⟨W3,hW3⟩ : ∃ W3,W3 = w2.drew.alloc (.cells cs 43):=⟨_,rfl⟩
 have hb3 : Below W0.heap.size W0 W3:=by rw [hW3]; exact hb2.trans (hs2.mono hb2.size)
 have HL:=Jh hl
 have HCP0:=Jh hcw
 have HRG:=Jh hrg
 have HS1:=Jh hs1
 have HS2:=Jh hs2
 have HIXC:=Jh hixc
 have HZX:=Jh hzc
 have HOX:=Jh hco
 have HZ0:=Jh hq
 have HW3:=Jh hW3
 have HB3:=Jh hb3
 clear hl hcw hrg hs1 hs2 hixc hzc hco hq hW3 hb3 hl0 hcs hcz
 refine wp_region_held_drew (S:=fun wx => Below w2.heap.size w2 wx) (by kernel_rfl) (Below.refl _ _).drew (fun hHeld => ?_)
 refine tkH (i:=0) (v:=(.pointer (some ⟨p,0,none⟩))) rfl hHeld ?_
 try simp only [sX]
 refine tkH (i:=1) (v:=(.pointer (some ⟨p,0,none⟩))) rfl hHeld ?_
 try simp only [sX]
 refine tkH (i:=2) (v:=(.pointer (some ⟨p,0,none⟩))) rfl hHeld ?_
 try simp only [sX]
 refine tkG (i:=3) (v:=(.map none)) rfl (Or.inl ⟨by kernel_rfl,fun _ hS => ld_mp _ rfl ⟨p,0,none⟩ rfl _ (HCP0.out _ hS)⟩) hHeld ?_
 try simp only [sX]
 refine tkG (i:=4) (v:=.agg #[.int .i64 ra,.int .i64 rn,.int .i64 ca,.int .i64 cn]) rfl (yieldsIf_load_mid (by kernel_rfl) 30 _ rfl b 0 rfl [.int .i64 ra,.int .i64 rn,.int .i64 ca,.int .i64 cn] _ (fun _ hS => HRG.out _ hS) undCell rfl infCell) hHeld ?_
 try simp only [sX]
 refine tkG (i:=5) (v:=(.tuple #[.agg cs,.bool false])) rfl (Or.inl ⟨by kernel_rfl,fun _ hS => lk_run (mv:=.map none) (kv:=.agg #[.int .i64 ra,.int .i64 rn,.int .i64 ca,.int .i64 cn]) _ _ rfl rfl rfl (HL.out _ hS)⟩) hHeld ?_
 try simp only [sX]
 refine tkH (i:=6) (v:=(.tuple #[.agg cs,.bool false])) rfl hHeld ?_
 try simp only [sX]
 refine tkH (i:=7) (v:=(.agg cs)) rfl hHeld ?_
 try simp only [sX]
 refine tkH (i:=8) (v:=(.bool false)) rfl hHeld ?_
 try simp only [sX]
 refine wpAnyH_contVar (i:=9) (by kernel_rfl) rfl rfl rfl q HZ0.out (HS1.out) (fun hHeld => ?_)
 try simp only [sX]
 refine wpAnyH_storeFresh (i:=10) (by kernel_rfl) rfl rfl 43 _ _ rfl q HZ0.out cs rfl rfl HIXC.out HZX.out HOX.out HS2.out (fun hHeld => ?_)
 try simp only [sX]
 refine tkH (i:=11) (v:=(.bool false)) rfl hHeld ?_
 try simp only [sX]
 refine wpAnyH_done (by kernel_rfl) ?_ _
 rw [← HW3.out]
 have hst3:=HST.out W3 HB3.out
 have hc3 : W3.cell? ⟨p,0,none⟩ = some (.map none):=cell_of_row _ _ 0 _ _ _ hst3.1
 have hlen:=fun wx : World => Maps.len_nil (w:=wx) undMp 3
 have heq:=eqMapNN
 have hmk:=mk_map3
 have hp3:=hst3.1
 obtain ⟨g,hg⟩ : ∃ g,g = W3.heap.size:=⟨_,rfl⟩
 obtain ⟨W4,hW4⟩ : ∃ W4,W4 = (W3.alloc (.map #[] 0)).setCell ⟨p,0,none⟩ (.map (some g)):=⟨_,rfl⟩
 have hpw : p < W3.heap.size:=(Jg hp3).1
 have hpa : (W3.alloc (.map #[] 0)).heap[p]? = some (.cells #[.map none] 62):=(heapOld _ _ _ hpw).trans hp3
 have hfz : (W3.alloc (.map #[] 0)).frozen? ⟨p,0,none⟩ = false:=by simp only [World.frozen?,hpa]; simp
 have hca : (W3.alloc (.map #[] 0)).cell? ⟨p,0,none⟩ = some (.map none):=cell_of_row _ _ 0 _ _ _ hpa
 have hp4 : W4.heap[p]? = some (.cells #[.map (some g)] 62):=by
  rw [hW4]
  exact Boxed.set _ (show Boxed (W3.alloc (.map #[] 0)) p 62 (.map none) from hpa)
 have ho4 : W4.ownsMap Tryz.prog 30 heldR g 0 (.map []):=by
  have:=(World.ownsMap_made W3 Tryz.prog 30 heldR).setCell (a:=⟨p,0,none⟩) (by show W3.heap.size ≠ p; omega) (.map (some g))
  rw [hW4,hg]; rw [hg] at this; exact this
 have hk34 : KeepP p none W3 W4:=by rw [hW4]; exact (KeepP.of_below ((Below.refl _ _).alloc (Nat.le_refl _) _)).then_cell _
 have hs34:=hk34.size
 have HO3:=Jh ho4
 have HP3:=Jh hp4
 have HW4:=Jh hW4
 have HG:=Jh hg
 have HPW:=Jh hpw
 have HK34:=Jh hk34
 have hpg : p ≠ g:=by omega
 have HPG:=Jh hpg
 have hrg3 : ∀ wx,KeepP p (some g) W4 wx → wx.rangeAt b 0 [.int .i64 ra,.int .i64 rn,.int .i64 ca,.int .i64 cn]:=fun wx hx => ad_range ((hx.block b (by have:=HB3.out.size; have:=HZ.out; omega) (by have:=HPL.out; omega) (fun e => by have:=Option.some.inj e; have:=HB3.out.size; have:=HZ.out; omega)).trans ((hk34.block b (by have:=HB3.out.size; have:=HZ.out; omega) (by have:=HPL.out; omega) (by simp)).trans (HKB.out W3 HB3.out)))
 have hka3 : ∀ wx,KeepP p (some g) W4 wx → wx.rangeAt (b + 1) 0 CA.toList:=fun wx hx => row_range_ ((hx.block (b + 1) (by have:=HB3.out.size; have:=HZ.out; omega) (by have:=HPL.out; omega) (fun e => by have:=Option.some.inj e; have:=HB3.out.size; have:=HZ.out; omega)).trans ((hk34.block (b + 1) (by have:=HB3.out.size; have:=HZ.out; omega) (by have:=HPL.out; omega) (by simp)).trans (HKA.out W3 HB3.out))) _ _ (fun j v hv => by rw [Nat.zero_add]; simpa using hv)
 have HRG3:=Jh hrg3
 have HKA3:=Jh hka3
 have HKW:=Jh (fun (wx : World) (h : KeepP p (some g) W4 wx) => KeepP.from_none (KeepP.from_below (HBEL.out.trans (HB3.out.mono HBEL.out.size)) hk34) h (by have:=(HBEL.out.trans (HB3.out.mono HBEL.out.size)).size; omega))
 clear hrg3 hka3 hst3 hp3 hg hW4 hpw hpa hp4 ho4 hk34 hs34 hpg
 go_wp2
 rw [← HG.out,← HW4.out]
 refine wp_region_held_drew (S:=fun wx => KeepP p (some g) W4 wx ∧ wx.heap[p]? = some (.cells #[.map (some g)] 62)) (by kernel_rfl) ⟨KeepP.of_below (Below.refl _ _).drew,HP3.out⟩ (fun hHeld => ?_)
 refine tkH (i:=0) (v:=(.pointer (some ⟨p,0,none⟩))) rfl hHeld ?_
 try simp only [sX]
 refine tkH (i:=1) (v:=(.pointer (some ⟨p,0,none⟩))) rfl hHeld ?_
 try simp only [sX]
 refine tkH (i:=2) (v:=(.pointer (some ⟨p,0,none⟩))) rfl hHeld ?_
 try simp only [sX]
 refine tkG (i:=3) (v:=(.map (some g))) rfl (Or.inl ⟨by kernel_rfl,fun _ hS => ld_mp _ rfl ⟨p,0,none⟩ rfl _ (cell_of_row _ _ 0 _ _ _ hS.2)⟩) hHeld ?_
 try simp only [sX]
 refine tkG (i:=4) (v:=.agg #[.int .i64 ra,.int .i64 rn,.int .i64 ca,.int .i64 cn]) rfl (yieldsIf_load_mid (by kernel_rfl) 30 _ rfl b 0 rfl [.int .i64 ra,.int .i64 rn,.int .i64 ca,.int .i64 cn] _ (fun _ hS => HRG3.out _ hS.1) undCell rfl infCell) hHeld ?_
 try simp only [sX]
 refine tkG (i:=5) (v:=.agg CA.toList.toArray) rfl (yieldsIf_load_mid (by kernel_rfl) 43 _ rfl (b + 1) 0 rfl CA.toList _ (fun _ hS => HKA3.out _ hS.1) undC rfl HIL.out) hHeld ?_
 try simp only [sX]
 simp only [Array.toArray_toList]
 refine wpAnyH_ready (rs:=[6]) (by kernel_rfl) (by simp) ?_
 refine AllReadyH.cons rfl (fun K hK => ?_) AllReadyH.nil
 go_simp
 refine (HCP.out _ (HKW.out _ hHeld.1)).mono ?_
 rintro e w4 ⟨A2,c2,rfl,hsl4,hb4⟩
 have HSL4:=Jh hsl4
 clear hsl4
 try go_simp
 have hH4 : KeepP p (some g) W4 w4 ∧ w4.heap[p]? = some (.cells #[.map (some g)] 62):=⟨hHeld.1.then_below hb4,(hb4.block p (Jg hHeld.2).1).trans hHeld.2⟩
 have HO4:=Jh (own_map_below HO3.out.drew hb4)
 have HP4:=Jh hb4.size
 refine hK.out _ _ hH4 (fun hHeld4 => ?_)
 clear hK K hHeld hH4
 try simp only [sX]
 refine wpAnyH_put (i:=7) (by kernel_rfl) rfl rfl _ _ _ rfl g 0 (.map []) rfl ⟨ra,rn,ca,cn⟩ HA.out rfl y A2 c2 rfl (by unfold maxLen; omega) HO4.out (fun w' hg => ⟨hHeld4.1.then_map hg (.inl rfl),(hg.block p (Jg hHeld4.2).1 (fun e => HPG.out (Option.some.inj e))).trans hHeld4.2⟩) (fun w5 ho5 hg5 hHeld5 => ?_)
 try simp only [sX]
 refine wpAnyH_done (by kernel_rfl) ?_ _
 go_wp2
 go_ret
 have hw3:=(HBEL.out.trans (HB3.out.mono HBEL.out.size)).size
 have hgw:=HG.out
 have hg4:=HO3.out.lt
 have hgl5 : g < w5.heap.size:=by have:=HP4.out; have:=hg5.size; have h3 : W4.heap.size ≤ w4.heap.size:=HP4.out; omega
 refine ⟨rfl,g,A2,c2,by omega,hgl5,⟨hHeld5.2,by rw [HDD.out]; exact ho5⟩,?_,KeepP.from_none (KeepP.from_below (HBEL.out.trans (HB3.out.mono HBEL.out.size)) HK34.out) hHeld5.1 (by omega)⟩
 refine HSL4.out.keep (fun b' _ h => ⟨by have h1 : W4.heap.size ≤ b':=h.1; omega,Nat.lt_of_lt_of_le h.2 hg5.size,by have h1 : W4.heap.size ≤ b':=h.1; omega⟩) (fun b' o' h j _ => World.cell?_of_block (a:=⟨b',o' + j,none⟩) (hg5.block b' h.2 (fun e => by have:=Option.some.inj e; have h1 : W4.heap.size ≤ b':=h.1; omega)))
end Go.Proofs.YtelombedjkbckaaGreatDoor
namespace Go.Proofs.YtelombedjkbckaaGreatDoor
set_option linter.unusedSimpArgs false
set_option linter.unusedVariables false
open Go Go.RowKit Go.Shelf Go.Maps
theorem right_cp {x : Ct} (h : x.fit) : cpC x = x:=by
 by_cases hk : x.k = 2
 · exact cpC_f hk
 · rw [cpC_p hk]
   have hr:=h.right
   unfold rightC at hr
   rw [if_neg h.full,if_neg hk] at hr
   split at hr
   · have ht : x.t = zTr:=(sameB_eq _ _).1 (by simp only [Bool.and_eq_true] at hr; exact hr.1)
     obtain ⟨k,v,t⟩:=x
     dsimp only at ht
     rw [ht]
     rfl
   · cases hr
end Go.Proofs.YtelombedjkbckaaGreatDoor
namespace Go.Proofs.YtelombedjkbckaaGreatDoor
set_option maxRecDepth 100000
set_option maxHeartbeats 4000000
open Go Go.RowKit Go.Shelf Go.Maps
theorem put_empty (w : World) (p g n : Nat) (D : DataW Value) (h : StAt w p (some g) n D) (a : Ad) (ha : a.ok) (his : a.is = true) (x : Ct) (A : Option Addr) (c : Nat) (hx1 : x.k = 0) (hr : rightC x = true) (hv : x.v.ok) (hd : x.t.d.ok) (B : Nat) (hs : SlAt w B A c x.t.l) (hB : B ≤ w.heap.size) (hsz : x.t.size ≤ 1099511627776) :
 Calls Tryz.prog 13 #[.pointer (some ⟨p,0,none⟩),a.val,contV x A c] w fun e w' => e = .returned (.int .i64 0) ∧ StAt w' p (some g) n (D.del a.key) ∧ KeepP p (some g) w w':=by
 obtain ⟨ra,rn,ca,cn⟩:=a
 obtain ⟨W0,hW0⟩ : ∃ W0,W0 = (w.alloc (.cells #[.int .i64 ra,.int .i64 rn,.int .i64 ca,.int .i64 cn] 30)).alloc (.cells (contA x A c) 43):=⟨_,rfl⟩
 have hbel : Below w.heap.size w W0:=by rw [hW0]; exact ((Below.refl _ w).alloc (Nat.le_refl _) _).alloc (by simp) _
 have hz0 : W0.heap.size = w.heap.size + 2:=by rw [hW0]; simp
 have hk0 : W0.heap[w.heap.size]? = some (.cells #[.int .i64 ra,.int .i64 rn,.int .i64 ca,.int .i64 cn] 30):=by rw [hW0]; exact (heapOld _ _ _ (by simp)).trans (heap_alloc_new _ _)
 have hk1 : W0.heap[w.heap.size + 1]? = some (.cells (contA x A c) 43):=by
  rw [hW0]
  have:=heap_alloc_new (w.alloc (.cells #[.int .i64 ra,.int .i64 rn,.int .i64 ca,.int .i64 cn] 30)) (.cells (contA x A c) 43)
  rwa [World.size_alloc] at this
 have hpl : p < w.heap.size:=(Jg h.1).1
 have hgl : g < w.heap.size:=by have : w.ownsMap Tryz.prog 30 heldR g n D:=h.2; exact this.lt
 have hpg : p ≠ g:=fun e => by
  have h1:=h.1
  obtain ⟨es,clock,e1,-⟩:=h.2
  rw [e,e1] at h1; cases h1
 have HPG:=Jh hpg
 clear hpg
 have hst : ∀ wx,Below W0.heap.size W0 wx → StAt wx p (some g) n D:=fun wx hx => (h.below hbel).below hx
 have hI : ∀ wx,Calls Tryz.prog 32 #[.agg #[.int .i64 ra,.int .i64 rn,.int .i64 ca,.int .i64 cn]] wx fun e w' => e = .returned (.bool true) ∧ Below wx.heap.size wx w':=fun wx => by have:=isCell_c ra rn ca cn wx; rw [show isCellB ra rn ca cn = true from his] at this; exact this
 have hR : ∀ wx,Below W0.heap.size W0 wx → Calls Tryz.prog 24 #[contV x A c] wx fun e w' => e = .returned (.bool true) ∧ Below wx.heap.size wx w':=fun wx hx => by
  have:=cright_c x wx B A c hv hd ((hs.below (hbel.mono hB)).below (hx.mono (by omega))) (by have:=hx.size; omega) hsz
  rwa [hr] at this
 have hkk : ∀ wx,Below W0.heap.size W0 wx → wx.cell? ⟨w.heap.size + 1,0,none⟩ = some (.int .i64 0):=fun wx hx => by rw [← hx1]; exact (cont_row ((hx.block (w.heap.size + 1) (by omega)).trans hk1)).1
 have hka : ∀ wx,Below W0.heap.size W0 wx → wx.heap[w.heap.size + 1]? = some (.cells (contA x A c) 43):=fun wx hx => (hx.block (w.heap.size + 1) (by omega)).trans hk1
 have hkb : ∀ wx,Below W0.heap.size W0 wx → wx.heap[w.heap.size]? = some (.cells #[.int .i64 ra,.int .i64 rn,.int .i64 ca,.int .i64 cn] 30):=fun wx hx => (hx.block w.heap.size (by omega)).trans hk0
 have hix : (Tryz.prog.info? 43).map (·.size) = some (contA x A c).size:=infC
 rw [contV] at hR
 obtain ⟨CA,hCA⟩ : ∃ C,C = contA x A c:=⟨_,rfl⟩
 obtain ⟨b,hb⟩ : ∃ b,b = w.heap.size:=⟨_,rfl⟩
 rw [show contV x A c = .agg CA by rw [hCA]]
 simp only [← hCA] at hka hR hix hW0
 have hil : (Tryz.prog.info? 43).map (·.size) = some CA.toList.length:=by rw [Array.length_toList]; exact hix
 rw [← hb] at hka hkb hkk hpl hgl hz0
 simp only [Ad.val]
 have HW0:=Jh hW0
 have HST:=Jh hst
 have HI:=Jh hI
 have HR:=Jh hR
 have HKK:=Jh hkk
 have HKA:=Jh hka
 have HKB:=Jh hkb
 have HIX:=Jh hix
 have HIL:=Jh hil
 have HA:=Jh ha
 have HB:=Jh hb
 have HBEL:=Jh hbel
 have HPL:=Jh hpl
 have HGL:=Jh hgl
 have HZ:=Jh hz0
 clear hW0 hst hI hR hkk hka hkb hix hil ha hb hbel hk0 hk1 hCA hs hd hv hr hx1 h his hsz hpl hgl hz0 hB
 have hb00 : Below W0.heap.size W0 W0:=Below.refl _ _
 have hrgb : ∀ wx,Below W0.heap.size W0 wx → wx.rangeAt b 0 [.int .i64 ra,.int .i64 rn,.int .i64 ca,.int .i64 cn]:=fun wx hx => ad_range (HKB.out wx hx)
 have HRGB:=Jh hrgb
 clear hrgb
 go_enter Tryz.func13,Tryz.ntmps13
 go_upto_region 1 with (fail)
 rw [← HW0.out,← HB.out]
 go_wp2_with (first | (refine wpList_mid rfl 30 _ rfl b 0 rfl _ _ (HRGB.out _ hb00) undCell rfl infCell ?_) | (go_at_call 32; refine (HI.out W0).mono ?_; rintro e w1 ⟨rfl,hb1⟩) | (refine wpList_row rfl 43 _ rfl (b + 1) rfl 43 CA (0,0) _ (HKA.out _ hb1) undC rfl HIX.out ?_) | (go_at_call 24; refine (HR.out _ hb1).mono ?_; rintro e w2 ⟨rfl,hbr⟩; have hb2:=hb1.trans (hbr.mono hb1.size); have hkc:=HKK.out _ hb2))
 clear hb1 hbr hb00 hkc
 have hst2:=HST.out w2 hb2
 have hc2 : w2.cell? ⟨p,0,none⟩ = some (.map (some g)):=cell_of_row _ _ 0 _ _ _ hst2.1
 have ho2 : w2.ownsMap Tryz.prog 30 heldR g n D:=hst2.2
 have HO2:=Jh ho2.drew
 have HP2:=Jh hst2.1
 have hrg:=HRGB.out w2 hb2
 have HRG:=Jh hrg
 clear hst2 ho2 hrg
 refine wp_region_still_tail 5 (by kernel_rfl) (by kernel_rfl) ?_
 simp only [List.take_succ_cons,List.take_zero,List.drop_succ_cons,List.drop_zero]
 iterate 4 still_step
 refine still_mid rfl 30 _ rfl b 0 rfl [.int .i64 ra,.int .i64 rn,.int .i64 ca,.int .i64 cn] _ HRG.out undCell rfl infCell ?_
 (try simp only [Act.put,List.setIfInBounds_toArray,List.set_cons_zero,List.set_cons_succ])
 refine wpStill_nil ?_
 change wpList _ _ _ _ _ w2.drew
 go_wp2_with (at_delete; refine wpList_delete_own _ rfl _ _ 60 30 rfl 43 cell_law undMp heldR g n D rfl HO2.out (Ad.val ⟨ra,rn,ca,cn⟩) _ rfl (key_eq ⟨ra,rn,ca,cn⟩ HA.out) ?_; intro w3 ho3 htn)
 go_ret
 have hg3 : w2.grownBy w3 (some g):=⟨htn.grown.os,htn.grown.tape,htn.grown.output,htn.grown.size,htn.grown.block⟩
 have hp2 : p < w2.heap.size:=(Jg HP2.out).1
 refine ⟨rfl,⟨(hg3.block p hp2 (fun e => HPG.out (Option.some.inj e))).trans HP2.out,ho3⟩,?_⟩
 exact KeepP.then_map (KeepP.of_below (HBEL.out.trans (hb2.mono HBEL.out.size))) hg3 (.inl rfl)
end Go.Proofs.YtelombedjkbckaaGreatDoor
namespace Go.Proofs.YtelombedjkbckaaGreatDoor
open Go Go.RowKit Go.Shelf Go.Maps
structure KeepZ (Z : Nat → Prop) (w w' : World) : Prop where
 os : w'.os = w.os
 tape : w'.tape = w.tape
 output : w'.output = w.output
 size : w.heap.size ≤ w'.heap.size
 block : ∀ k,k < w.heap.size → ¬ Z k → w'.heap[k]? = w.heap[k]?
theorem KeepZ.refl (Z : Nat → Prop) (w : World) : KeepZ Z w w:=⟨rfl,rfl,rfl,Nat.le_refl _,fun _ _ _ => rfl⟩
theorem KeepZ.trans {Z : Nat → Prop} {a b c : World} (h : KeepZ Z a b) (h' : KeepZ Z b c) : KeepZ Z a c :=
 ⟨h'.os.trans h.os,h'.tape.trans h.tape,h'.output.trans h.output,Nat.le_trans h.size h'.size,fun k hk hn => (h'.block k (Nat.lt_of_lt_of_le hk h.size) hn).trans (h.block k hk hn)⟩
theorem KeepZ.of {Z : Nat → Prop} {a b : World} (h : Below a.heap.size a b) : KeepZ Z a b:=⟨h.os,h.tape,h.output,h.size,fun k hk _ => h.block k hk⟩
theorem KeepZ.mono {Z Z' : Nat → Prop} {a b : World} (h : KeepZ Z a b) (hz : ∀ k,Z k → Z' k) : KeepZ Z' a b:=⟨h.os,h.tape,h.output,h.size,fun k hk hn => h.block k hk (fun e => hn (hz k e))⟩
end Go.Proofs.YtelombedjkbckaaGreatDoor
namespace Go.Proofs.YtelombedjkbckaaGreatDoor
set_option maxRecDepth 100000
set_option maxHeartbeats 4000000
set_option linter.unusedSimpArgs false
set_option linter.unusedVariables false
open Go Go.RowKit Go.Shelf Go.Maps
theorem put_emptyN (w : World) (p : Nat) (n : Nat) (D : DataW Value) (h : StAt w p none n D) (a : Ad) (ha : a.ok) (his : a.is = true) (x : Ct) (A : Option Addr) (c : Nat) (hx1 : x.k = 0) (hr : rightC x = true) (hv : x.v.ok) (hd : x.t.d.ok) (B : Nat) (hs : SlAt w B A c x.t.l) (hB : B ≤ w.heap.size) (hsz : x.t.size ≤ 1099511627776) :
 Calls Tryz.prog 13 #[.pointer (some ⟨p,0,none⟩),a.val,contV x A c] w fun e w' => e = .returned (.int .i64 0) ∧ Below w.heap.size w w':=by
 obtain ⟨ra,rn,ca,cn⟩:=a
 obtain ⟨W0,hW0⟩ : ∃ W0,W0 = (w.alloc (.cells #[.int .i64 ra,.int .i64 rn,.int .i64 ca,.int .i64 cn] 30)).alloc (.cells (contA x A c) 43):=⟨_,rfl⟩
 have hbel : Below w.heap.size w W0:=by rw [hW0]; exact ((Below.refl _ w).alloc (Nat.le_refl _) _).alloc (by simp) _
 have hz0 : W0.heap.size = w.heap.size + 2:=by rw [hW0]; simp
 have hk0 : W0.heap[w.heap.size]? = some (.cells #[.int .i64 ra,.int .i64 rn,.int .i64 ca,.int .i64 cn] 30):=by rw [hW0]; exact (heapOld _ _ _ (by simp)).trans (heap_alloc_new _ _)
 have hk1 : W0.heap[w.heap.size + 1]? = some (.cells (contA x A c) 43):=by
  rw [hW0]
  have:=heap_alloc_new (w.alloc (.cells #[.int .i64 ra,.int .i64 rn,.int .i64 ca,.int .i64 cn] 30)) (.cells (contA x A c) 43)
  rwa [World.size_alloc] at this
 have hpl : p < w.heap.size:=(Jg h.1).1
 have hst : ∀ wx,Below W0.heap.size W0 wx → StAt wx p none n D:=fun wx hx => (h.below hbel).below hx
 have hI : ∀ wx,Calls Tryz.prog 32 #[.agg #[.int .i64 ra,.int .i64 rn,.int .i64 ca,.int .i64 cn]] wx fun e w' => e = .returned (.bool true) ∧ Below wx.heap.size wx w':=fun wx => by have:=isCell_c ra rn ca cn wx; rw [show isCellB ra rn ca cn = true from his] at this; exact this
 have hR : ∀ wx,Below W0.heap.size W0 wx → Calls Tryz.prog 24 #[contV x A c] wx fun e w' => e = .returned (.bool true) ∧ Below wx.heap.size wx w':=fun wx hx => by
  have:=cright_c x wx B A c hv hd ((hs.below (hbel.mono hB)).below (hx.mono (by omega))) (by have:=hx.size; omega) hsz
  rwa [hr] at this
 have hkk : ∀ wx,Below W0.heap.size W0 wx → wx.cell? ⟨w.heap.size + 1,0,none⟩ = some (.int .i64 0):=fun wx hx => by rw [← hx1]; exact (cont_row ((hx.block (w.heap.size + 1) (by omega)).trans hk1)).1
 have hka : ∀ wx,Below W0.heap.size W0 wx → wx.heap[w.heap.size + 1]? = some (.cells (contA x A c) 43):=fun wx hx => (hx.block (w.heap.size + 1) (by omega)).trans hk1
 have hkb : ∀ wx,Below W0.heap.size W0 wx → wx.heap[w.heap.size]? = some (.cells #[.int .i64 ra,.int .i64 rn,.int .i64 ca,.int .i64 cn] 30):=fun wx hx => (hx.block w.heap.size (by omega)).trans hk0
 have hix : (Tryz.prog.info? 43).map (·.size) = some (contA x A c).size:=infC
 rw [contV] at hR
 obtain ⟨CA,hCA⟩ : ∃ C,C = contA x A c:=⟨_,rfl⟩
 obtain ⟨b,hb⟩ : ∃ b,b = w.heap.size:=⟨_,rfl⟩
 rw [show contV x A c = .agg CA by rw [hCA]]
 simp only [← hCA] at hka hR hix hW0
 have hil : (Tryz.prog.info? 43).map (·.size) = some CA.toList.length:=by rw [Array.length_toList]; exact hix
 rw [← hb] at hka hkb hkk hpl hz0
 simp only [Ad.val]
 have HW0:=Jh hW0
 have HST:=Jh hst
 have HI:=Jh hI
 have HR:=Jh hR
 have HKK:=Jh hkk
 have HKA:=Jh hka
 have HKB:=Jh hkb
 have HIX:=Jh hix
 have HIL:=Jh hil
 have HA:=Jh ha
 have HB:=Jh hb
 have HBEL:=Jh hbel
 have HPL:=Jh hpl
 have HZ:=Jh hz0
 clear hW0 hst hI hR hkk hka hkb hix hil ha hb hbel hk0 hk1 hCA hs hd hv hr hx1 h his hsz hpl hz0 hB
 have hb00 : Below W0.heap.size W0 W0:=Below.refl _ _
 have hrgb : ∀ wx,Below W0.heap.size W0 wx → wx.rangeAt b 0 [.int .i64 ra,.int .i64 rn,.int .i64 ca,.int .i64 cn]:=fun wx hx => ad_range (HKB.out wx hx)
 have HRGB:=Jh hrgb
 clear hrgb
 go_enter Tryz.func13,Tryz.ntmps13
 go_upto_region 1 with (fail)
 rw [← HW0.out,← HB.out]
 go_wp2_with (first | (refine wpList_mid rfl 30 _ rfl b 0 rfl _ _ (HRGB.out _ hb00) undCell rfl infCell ?_) | (go_at_call 32; refine (HI.out W0).mono ?_; rintro e w1 ⟨rfl,hb1⟩) | (refine wpList_row rfl 43 _ rfl (b + 1) rfl 43 CA (0,0) _ (HKA.out _ hb1) undC rfl HIX.out ?_) | (go_at_call 24; refine (HR.out _ hb1).mono ?_; rintro e w2 ⟨rfl,hbr⟩; have hb2:=hb1.trans (hbr.mono hb1.size); have hkc:=HKK.out _ hb2))
 clear hb1 hbr hb00 hkc
 have hst2:=HST.out w2 hb2
 have hc2 : w2.cell? ⟨p,0,none⟩ = some (.map none):=cell_of_row _ _ 0 _ _ _ hst2.1
 have hrg:=HRGB.out w2 hb2
 have HRG:=Jh hrg
 have hdl : ∀ (wx : World) (ty : TypeId),(Builtin.delete_ #[60,30] ty #[.map none,.agg #[.int .i64 ra,.int .i64 rn,.int .i64 ca,.int .i64 cn]]).run Tryz.prog wx = .ok (.tuple #[]) wx:=fun wx ty => Maps.drop_nil (w:=wx) cell_law undMp (key_eq ⟨ra,rn,ca,cn⟩ HA.out) ty
 clear hst2 hrg
 refine wp_region_still_tail 5 (by kernel_rfl) (by kernel_rfl) ?_
 simp only [List.take_succ_cons,List.take_zero,List.drop_succ_cons,List.drop_zero]
 iterate 4 still_step
 refine still_mid rfl 30 _ rfl b 0 rfl [.int .i64 ra,.int .i64 rn,.int .i64 ca,.int .i64 cn] _ HRG.out undCell rfl infCell ?_
 (try simp only [Act.put,List.setIfInBounds_toArray,List.set_cons_zero,List.set_cons_succ])
 refine wpStill_nil ?_
 change wpList _ _ _ _ _ w2.drew
 go_wp2
 first | go_ret | go_ret2
 exact ⟨rfl,(HBEL.out.trans (hb2.mono HBEL.out.size)).drew⟩
theorem put_nocell (w : World) (p : Nat) (m : Option Nat) (n : Nat) (D : DataW Value) (h : StAt w p m n D) (a : Ad) (ha : a.ok) (his : a.is = false) (x : Ct) (A : Option Addr) (c : Nat) (hv : x.v.ok) (hd : x.t.d.ok) (B : Nat) (hs : SlAt w B A c x.t.l) (hB : B ≤ w.heap.size) (hsz : x.t.size ≤ 1099511627776) :
 Calls Tryz.prog 13 #[.pointer (some ⟨p,0,none⟩),a.val,contV x A c] w fun e w' => e = .returned (.int .i64 1) ∧ Below w.heap.size w w':=by
 obtain ⟨ra,rn,ca,cn⟩:=a
 obtain ⟨W0,hW0⟩ : ∃ W0,W0 = (w.alloc (.cells #[.int .i64 ra,.int .i64 rn,.int .i64 ca,.int .i64 cn] 30)).alloc (.cells (contA x A c) 43):=⟨_,rfl⟩
 have hbel : Below w.heap.size w W0:=by rw [hW0]; exact ((Below.refl _ w).alloc (Nat.le_refl _) _).alloc (by simp) _
 have hz0 : W0.heap.size = w.heap.size + 2:=by rw [hW0]; simp
 have hk0 : W0.heap[w.heap.size]? = some (.cells #[.int .i64 ra,.int .i64 rn,.int .i64 ca,.int .i64 cn] 30):=by rw [hW0]; exact (heapOld _ _ _ (by simp)).trans (heap_alloc_new _ _)
 have hk1 : W0.heap[w.heap.size + 1]? = some (.cells (contA x A c) 43):=by
  rw [hW0]
  have:=heap_alloc_new (w.alloc (.cells #[.int .i64 ra,.int .i64 rn,.int .i64 ca,.int .i64 cn] 30)) (.cells (contA x A c) 43)
  rwa [World.size_alloc] at this
 have hpl : p < w.heap.size:=(Jg h.1).1
 have hst : ∀ wx,Below W0.heap.size W0 wx → StAt wx p m n D:=fun wx hx => (h.below hbel).below hx
 have hI : ∀ wx,Calls Tryz.prog 32 #[.agg #[.int .i64 ra,.int .i64 rn,.int .i64 ca,.int .i64 cn]] wx fun e w' => e = .returned (.bool false) ∧ Below wx.heap.size wx w':=fun wx => by have:=isCell_c ra rn ca cn wx; rw [show isCellB ra rn ca cn = false from his] at this; exact this
 have hka : ∀ wx,Below W0.heap.size W0 wx → wx.heap[w.heap.size + 1]? = some (.cells (contA x A c) 43):=fun wx hx => (hx.block (w.heap.size + 1) (by omega)).trans hk1
 have hkb : ∀ wx,Below W0.heap.size W0 wx → wx.heap[w.heap.size]? = some (.cells #[.int .i64 ra,.int .i64 rn,.int .i64 ca,.int .i64 cn] 30):=fun wx hx => (hx.block w.heap.size (by omega)).trans hk0
 have hix : (Tryz.prog.info? 43).map (·.size) = some (contA x A c).size:=infC
 obtain ⟨CA,hCA⟩ : ∃ C,C = contA x A c:=⟨_,rfl⟩
 obtain ⟨b,hb⟩ : ∃ b,b = w.heap.size:=⟨_,rfl⟩
 rw [show contV x A c = .agg CA by rw [hCA]]
 simp only [← hCA] at hka hix hW0
 have hil : (Tryz.prog.info? 43).map (·.size) = some CA.toList.length:=by rw [Array.length_toList]; exact hix
 rw [← hb] at hka hkb hpl hz0
 simp only [Ad.val]
 have HW0:=Jh hW0
 have HST:=Jh hst
 have HI:=Jh hI
 have HKA:=Jh hka
 have HKB:=Jh hkb
 have HIX:=Jh hix
 have HIL:=Jh hil
 have HA:=Jh ha
 have HB:=Jh hb
 have HBEL:=Jh hbel
 have HPL:=Jh hpl
 have HZ:=Jh hz0
 clear hW0 hst hI hka hkb hix hil ha hb hbel hk0 hk1 hCA hs hd hv h his hsz hpl hz0 hB
 have hb00 : Below W0.heap.size W0 W0:=Below.refl _ _
 have hrgb : ∀ wx,Below W0.heap.size W0 wx → wx.rangeAt b 0 [.int .i64 ra,.int .i64 rn,.int .i64 ca,.int .i64 cn]:=fun wx hx => ad_range (HKB.out wx hx)
 have HRGB:=Jh hrgb
 clear hrgb
 go_enter Tryz.func13,Tryz.ntmps13
 go_upto_region 1 with (fail)
 rw [← HW0.out,← HB.out]
 go_wp2_with (first | (refine wpList_mid rfl 30 _ rfl b 0 rfl _ _ (HRGB.out _ hb00) undCell rfl infCell ?_) | (go_at_call 32; refine (HI.out W0).mono ?_; rintro e w1 ⟨rfl,hb1⟩))
 first | go_ret | go_ret2
 exact ⟨rfl,HBEL.out.trans (hb1.mono HBEL.out.size)⟩
theorem put_wrong (w : World) (p : Nat) (m : Option Nat) (n : Nat) (D : DataW Value) (h : StAt w p m n D) (a : Ad) (ha : a.ok) (his : a.is = true) (x : Ct) (A : Option Addr) (c : Nat) (hr : rightC x = false) (hv : x.v.ok) (hd : x.t.d.ok) (B : Nat) (hs : SlAt w B A c x.t.l) (hB : B ≤ w.heap.size) (hsz : x.t.size ≤ 1099511627776) :
 Calls Tryz.prog 13 #[.pointer (some ⟨p,0,none⟩),a.val,contV x A c] w fun e w' => e = .returned (.int .i64 6) ∧ Below w.heap.size w w':=by
 obtain ⟨ra,rn,ca,cn⟩:=a
 obtain ⟨W0,hW0⟩ : ∃ W0,W0 = (w.alloc (.cells #[.int .i64 ra,.int .i64 rn,.int .i64 ca,.int .i64 cn] 30)).alloc (.cells (contA x A c) 43):=⟨_,rfl⟩
 have hbel : Below w.heap.size w W0:=by rw [hW0]; exact ((Below.refl _ w).alloc (Nat.le_refl _) _).alloc (by simp) _
 have hz0 : W0.heap.size = w.heap.size + 2:=by rw [hW0]; simp
 have hk0 : W0.heap[w.heap.size]? = some (.cells #[.int .i64 ra,.int .i64 rn,.int .i64 ca,.int .i64 cn] 30):=by rw [hW0]; exact (heapOld _ _ _ (by simp)).trans (heap_alloc_new _ _)
 have hk1 : W0.heap[w.heap.size + 1]? = some (.cells (contA x A c) 43):=by
  rw [hW0]
  have:=heap_alloc_new (w.alloc (.cells #[.int .i64 ra,.int .i64 rn,.int .i64 ca,.int .i64 cn] 30)) (.cells (contA x A c) 43)
  rwa [World.size_alloc] at this
 have hpl : p < w.heap.size:=(Jg h.1).1
 have hst : ∀ wx,Below W0.heap.size W0 wx → StAt wx p m n D:=fun wx hx => (h.below hbel).below hx
 have hI : ∀ wx,Calls Tryz.prog 32 #[.agg #[.int .i64 ra,.int .i64 rn,.int .i64 ca,.int .i64 cn]] wx fun e w' => e = .returned (.bool true) ∧ Below wx.heap.size wx w':=fun wx => by have:=isCell_c ra rn ca cn wx; rw [show isCellB ra rn ca cn = true from his] at this; exact this
 have hR : ∀ wx,Below W0.heap.size W0 wx → Calls Tryz.prog 24 #[contV x A c] wx fun e w' => e = .returned (.bool false) ∧ Below wx.heap.size wx w':=fun wx hx => by
  have:=cright_c x wx B A c hv hd ((hs.below (hbel.mono hB)).below (hx.mono (by omega))) (by have:=hx.size; omega) hsz
  rwa [hr] at this
 have hka : ∀ wx,Below W0.heap.size W0 wx → wx.heap[w.heap.size + 1]? = some (.cells (contA x A c) 43):=fun wx hx => (hx.block (w.heap.size + 1) (by omega)).trans hk1
 have hkb : ∀ wx,Below W0.heap.size W0 wx → wx.heap[w.heap.size]? = some (.cells #[.int .i64 ra,.int .i64 rn,.int .i64 ca,.int .i64 cn] 30):=fun wx hx => (hx.block w.heap.size (by omega)).trans hk0
 have hix : (Tryz.prog.info? 43).map (·.size) = some (contA x A c).size:=infC
 rw [contV] at hR
 obtain ⟨CA,hCA⟩ : ∃ C,C = contA x A c:=⟨_,rfl⟩
 obtain ⟨b,hb⟩ : ∃ b,b = w.heap.size:=⟨_,rfl⟩
 rw [show contV x A c = .agg CA by rw [hCA]]
 simp only [← hCA] at hka hR hix hW0
 have hil : (Tryz.prog.info? 43).map (·.size) = some CA.toList.length:=by rw [Array.length_toList]; exact hix
 rw [← hb] at hka hkb hpl hz0
 simp only [Ad.val]
 have HW0:=Jh hW0
 have HST:=Jh hst
 have HI:=Jh hI
 have HR:=Jh hR
 have HKA:=Jh hka
 have HKB:=Jh hkb
 have HIX:=Jh hix
 have HIL:=Jh hil
 have HA:=Jh ha
 have HB:=Jh hb
 have HBEL:=Jh hbel
 have HPL:=Jh hpl
 have HZ:=Jh hz0
 clear hW0 hst hI hR hka hkb hix hil ha hb hbel hk0 hk1 hCA hs hd hv hr h his hsz hpl hz0 hB
 have hb00 : Below W0.heap.size W0 W0:=Below.refl _ _
 have hrgb : ∀ wx,Below W0.heap.size W0 wx → wx.rangeAt b 0 [.int .i64 ra,.int .i64 rn,.int .i64 ca,.int .i64 cn]:=fun wx hx => ad_range (HKB.out wx hx)
 have HRGB:=Jh hrgb
 clear hrgb
 go_enter Tryz.func13,Tryz.ntmps13
 go_upto_region 1 with (fail)
 rw [← HW0.out,← HB.out]
 go_wp2_with (first | (refine wpList_mid rfl 30 _ rfl b 0 rfl _ _ (HRGB.out _ hb00) undCell rfl infCell ?_) | (go_at_call 32; refine (HI.out W0).mono ?_; rintro e w1 ⟨rfl,hb1⟩) | (refine wpList_row rfl 43 _ rfl (b + 1) rfl 43 CA (0,0) _ (HKA.out _ hb1) undC rfl HIX.out ?_) | (go_at_call 24; refine (HR.out _ hb1).mono ?_; rintro e w2 ⟨rfl,hbr⟩; have hb2:=hb1.trans (hbr.mono hb1.size)))
 first | go_ret | go_ret2
 exact ⟨rfl,HBEL.out.trans (hb2.mono HBEL.out.size)⟩
def putR (M : List (Ad × Ct)) (a : Ad) (x : Ct) : List (Ad × Ct) × Int :=
 if a.is = false then (M,1) else if rightC x = false then (M,6) else if x.k = 0 then (M.filter fun e => e.1 ≠ a,0) else (putA a x false M,0)
def StZ (W : World) (p n : Nat) (M : List (Ad × Ct)) (Z : Nat → Prop) : Prop :=
 ∃ m D T,StAt W p m n D ∧ Rep W T D M ∧ Z p ∧ (∀ b,m = some b → Z b) ∧ ∀ b,T b → Z b ∧ b ≠ p ∧ m ≠ some b ∧ b < W.heap.size
theorem StZ.keep {W W' : World} {p n : Nat} {M : List (Ad × Ct)} {Z Z' : Nat → Prop} (h : StZ W p n M Z) (hk : KeepZ Z' W W') (hd : ∀ k,Z k → ¬ Z' k) : StZ W' p n M Z:=by
 obtain ⟨m,D,T,⟨h1,h2⟩,h3,h4,h5,h6⟩:=h
 refine ⟨m,D,T,⟨(hk.block p (Jg h1).1 (hd p h4)).trans h1,?_⟩,h3.keep (fun _ h => h) (fun b hb => hk.block b (h6 b hb).2.2.2 (hd b (h6 b hb).1)),h4,h5,fun b hb => ⟨(h6 b hb).1,(h6 b hb).2.1,(h6 b hb).2.2.1,Nat.lt_of_lt_of_le (h6 b hb).2.2.2 hk.size⟩⟩
 cases m with
 | none => exact h2
 | some g =>
  obtain ⟨es,clock,e1,e2⟩:=h2
  exact ⟨es,clock,(hk.block g (Jg e1).1 (hd g (h5 g rfl))).trans e1,e2⟩
theorem StZ.below {W W' : World} {p n : Nat} {M : List (Ad × Ct)} {Z : Nat → Prop} (h : StZ W p n M Z) (hb : Below W.heap.size W W') : StZ W' p n M Z:=h.keep (Z':=fun _ => False) (KeepZ.of hb) (fun _ _ h => h)
theorem StZ.zone {W : World} {p n : Nat} {M : List (Ad × Ct)} {Z Z' : Nat → Prop} (h : StZ W p n M Z) (hz : ∀ b,Z b → Z' b) : StZ W p n M Z':=by
 obtain ⟨m,D,T,h1,h3,h4,h5,h6⟩:=h
 exact ⟨m,D,T,h1,h3,hz _ h4,fun b e => hz b (h5 b e),fun b hb => ⟨hz b (h6 b hb).1,(h6 b hb).2⟩⟩
theorem StZ.more {W : World} {p n n' : Nat} {M : List (Ad × Ct)} {Z : Nat → Prop} (h : StZ W p n M Z) (hn : n ≤ n') : StZ W p n' M Z:=by
 obtain ⟨m,D,T,⟨h1,h2⟩,h3,h4⟩:=h
 refine ⟨m,D,T,⟨h1,?_⟩,h3,h4⟩
 cases m with
 | none => exact h2
 | some g => exact World.ownsMap.mono h2 hn
theorem putZ_c {w : World} {p n : Nat} {M : List (Ad × Ct)} {Z : Nat → Prop} (h : StZ w p n M Z) (hn : n < 100000) (hM : M.length < 10000) (a : Ad) (ha : a.ok) (x : Ct) (A : Option Addr) (c : Nat) (hv : x.v.ok) (hd : x.t.d.ok) (hs : SlAt w w.heap.size A c x.t.l) (hsz : x.t.size ≤ 1048576) :
 Calls Tryz.prog 13 #[.pointer (some ⟨p,0,none⟩),a.val,contV x A c] w fun e w' => e = .returned (.int .i64 (putR M a x).2) ∧ StZ w' p (n + 1) (putR M a x).1 (fun b => Z b ∨ (w.heap.size ≤ b ∧ b < w'.heap.size)) ∧ KeepZ Z w w':=by
 obtain ⟨m,D,T,hst,hrep,hp,hmz,hT⟩:=h
 have hold : ∀ w',Below w.heap.size w w' → StZ w' p (n + 1) M (fun b => Z b ∨ (w.heap.size ≤ b ∧ b < w'.heap.size)) ∧ KeepZ Z w w':=fun w' hb =>
  ⟨((StZ.below ⟨m,D,T,hst,hrep,hp,hmz,hT⟩ hb).zone (fun b h => .inl h)).more (by omega),KeepZ.of hb⟩
 have hkz : ∀ w',KeepP p m w w' → KeepZ Z w w':=fun w' hk => ⟨hk.os,hk.tape,hk.output,hk.size,fun k h1 h2 => hk.block k h1 (fun e => h2 (e ▸ hp)) (fun e => h2 (hmz k e))⟩
 have hTk : ∀ w',KeepP p m w w' → ∀ b,T b → w'.heap[b]? = w.heap[b]?:=fun w' hk b hb => hk.block b (hT b hb).2.2.2 (hT b hb).2.1 (hT b hb).2.2.1
 unfold putR
 by_cases his : a.is = false
 · rw [if_pos his]
   refine (put_nocell w p m n D hst a ha his x A c hv hd w.heap.size hs (Nat.le_refl _) (by omega)).mono ?_
   rintro e w' ⟨rfl,hb⟩
   exact ⟨rfl,hold w' hb⟩
 rw [if_neg his]
 have his' : a.is = true:=by simpa using his
 by_cases hr : rightC x = false
 · rw [if_pos hr]
   refine (put_wrong w p m n D hst a ha his' x A c hr hv hd w.heap.size hs (Nat.le_refl _) (by omega)).mono ?_
   rintro e w' ⟨rfl,hb⟩
   exact ⟨rfl,hold w' hb⟩
 rw [if_neg hr]
 have hr' : rightC x = true:=by simpa using hr
 by_cases hk : x.k = 0
 · rw [if_pos hk]
   cases m with
   | none =>
    have hM0 : M = []:=by
     have hD : D = .map []:=hst.2
     have h1:=hrep.size
     rw [hD] at h1
     have h2 : Maps.size (DataW.map [] : DataW Value) = 0:=rfl
     exact List.length_eq_zero_iff.1 (by omega)
    refine (put_emptyN w p n D hst a ha his' x A c hk hr' hv hd w.heap.size hs (Nat.le_refl _) (by omega)).mono ?_
    rintro e w' ⟨rfl,hb⟩
    have h1:=hold w' hb
    rw [hM0] at h1 ⊢
    exact ⟨rfl,h1⟩
   | some g =>
    refine (put_empty w p g n D hst a ha his' x A c hk hr' hv hd w.heap.size hs (Nat.le_refl _) (by omega)).mono ?_
    rintro e w' ⟨rfl,hst',hkp⟩
    refine ⟨rfl,StZ.more ⟨some g,D.del a.key,T,hst',hrep.del (fun _ h => h) (hTk w' hkp) ha,.inl hp,fun b e => .inl (hmz b e),fun b hb => ⟨.inl (hT b hb).1,(hT b hb).2.1,(hT b hb).2.2.1,Nat.lt_of_lt_of_le (hT b hb).2.2.2 hkp.size⟩⟩ (by omega),hkz w' hkp⟩
 rw [if_neg hk]
 have hfit : x.fit:=⟨hv,hd,hsz,hr',hk⟩
 have hcp:=right_cp hfit
 have hpl : p < w.heap.size:=(Jg hst.1).1
 cases m with
 | none =>
  refine (put_noneC w p n D hst a ha his' x A c hk hr' hv hd w.heap.size hs (Nat.le_refl _) hsz).mono ?_
  rintro e w' ⟨rfl,g,A2,c2,hg1,hg2,hst',hsl,hkp⟩
  rw [hcp] at hst' hsl
  have hD : D = .map []:=hst.2
  refine ⟨rfl,StZ.more ⟨some g,_,fun b => T b ∨ (w.heap.size ≤ b ∧ b < w'.heap.size ∧ b ≠ g),hst',hrep.put (fun _ h => .inl h) (hTk w' hkp) ha hfit (hsl.keep (fun b _ h => .inr h) (fun _ _ _ _ _ => rfl)),.inl hp,fun b e => ?_,fun b hb => ?_⟩ (by omega),hkz w' hkp⟩
  · obtain rfl:=Option.some.inj e
    exact .inr ⟨hg1,hg2⟩
  · rcases hb with hb | ⟨h1,h2,h3⟩
    · have:=(hT b hb).2.2.2
      exact ⟨.inl (hT b hb).1,(hT b hb).2.1,fun e => by have:=Option.some.inj e; omega,Nat.lt_of_lt_of_le this hkp.size⟩
    · exact ⟨.inr ⟨h1,h2⟩,by omega,fun e => h3 (Option.some.inj e).symm,h2⟩
 | some g =>
  have hgl : g < w.heap.size:=by have : w.ownsMap Tryz.prog 30 heldR g n D:=hst.2; exact this.lt
  refine (put_someC w p g n D hst (by omega) a ha his' x A c hk hr' hv hd w.heap.size hs (Nat.le_refl _) hsz _ rfl (.inr (by rw [hrep.size]; exact hM))).mono ?_
  rintro e w' ⟨rfl,A2,c2,hst',hsl,hkp⟩
  rw [hcp] at hst' hsl
  refine ⟨rfl,⟨some g,_,fun b => T b ∨ (w.heap.size ≤ b ∧ b < w'.heap.size),hst',hrep.put (fun _ h => .inl h) (hTk w' hkp) ha hfit (hsl.keep (fun b _ h => .inr h) (fun _ _ _ _ _ => rfl)),.inl hp,fun b e => .inl (hmz b e),fun b hb => ?_⟩,hkz w' hkp⟩
  rcases hb with hb | ⟨h1,h2⟩
  · exact ⟨.inl (hT b hb).1,(hT b hb).2.1,(hT b hb).2.2.1,Nat.lt_of_lt_of_le (hT b hb).2.2.2 hkp.size⟩
  · exact ⟨.inr ⟨h1,h2⟩,by omega,fun e => by have:=Option.some.inj e; omega,h2⟩
end Go.Proofs.YtelombedjkbckaaGreatDoor
namespace Go.Proofs.YtelombedjkbckaaGreatDoor
open Go Go.RowKit Go.Shelf Go.Maps
theorem putR_eq (M : List (Ad × Ct)) (a : Ad) (x : Ct) : putR M a x = if a.is = false then (M,1) else if rightC x = false then (M,6) else (putA a x (decide (x.k = 0)) M,0):=by
 unfold putR
 by_cases h1 : a.is = false
 · rw [if_pos h1,if_pos h1]
 rw [if_neg h1,if_neg h1]
 by_cases h2 : rightC x = false
 · rw [if_pos h2,if_pos h2]
 rw [if_neg h2,if_neg h2]
 by_cases h3 : x.k = 0
 · rw [if_pos h3,decide_eq_true h3,putA_true_filter]
 · rw [if_neg h3,decide_eq_false h3]
theorem putR_order {M : List (Ad × Ct)} (h : InOrder M) (a : Ad) (x : Ct) : InOrder (putR M a x).1:=by
 rw [putR_eq]
 split
 · exact h
 split
 · exact h
 cases hk : decide (x.k = 0) with
 | true => exact putA_true_order h
 | false => exact putA_order h
def goodP (e : Ad × Ct) : Bool:=e.1.is && (rightC e.2 && decide (e.2.k ≠ 0))
theorem getA_putR {M : List (Ad × Ct)} (a : Ad) (x : Ct) (k : Ad) : getA (putR M a x).1 k = if k = a ∧ a.is = true ∧ rightC x = true then (if x.k = 0 then none else some x) else getA M k:=by
 rw [putR_eq]
 by_cases h1 : a.is = false
 · rw [if_pos h1,if_neg (by simp [h1])]
 rw [if_neg h1]
 by_cases h2 : rightC x = false
 · rw [if_pos h2,if_neg (by simp [h2])]
 rw [if_neg h2]
 have h1' : a.is = true:=by simpa using h1
 have h2' : rightC x = true:=by simpa using h2
 by_cases h3 : x.k = 0
 · rw [decide_eq_true h3]
   show getA (putA a x true M) k = _
   rw [getA_putA_true]
   by_cases hk : k = a
   · rw [if_pos hk,if_pos ⟨hk,h1',h2'⟩,if_pos h3]
   · rw [if_neg hk,if_neg (fun h => hk h.1)]
 · rw [decide_eq_false h3]
   show getA (putA a x false M) k = _
   rw [getA_putA]
   by_cases hk : k = a
   · rw [if_pos hk,if_pos ⟨hk,h1',h2'⟩,if_neg h3]
   · rw [if_neg hk,if_neg (fun h => hk h.1)]
def playL (l : List (Ad × Ct)) : List (Ad × Ct):=l.foldl (fun M e => (putR M e.1 e.2).1) []
theorem playL_snoc (l : List (Ad × Ct)) (e : Ad × Ct) : playL (l ++ [e]) = (putR (playL l) e.1 e.2).1:=by
 simp [playL,List.foldl_append]
theorem fold_order : ∀ (l : List (Ad × Ct)) {M : List (Ad × Ct)},InOrder M → InOrder (l.foldl (fun M e => (putR M e.1 e.2).1) M)
 | [],_,h => h
 | e :: l,_,h => fold_order l (putR_order h e.1 e.2)
theorem playL_order (l : List (Ad × Ct)) : InOrder (playL l):=fold_order l List.Pairwise.nil
theorem flatMap_get33 {α : Type} (enc : α → List Value) (h4 : ∀ x,(enc x).length = 33) : ∀ (l : List α) (j : Nat),(l.flatMap enc)[j]? = (l[j / 33]?).bind fun x => (enc x)[j % 33]?
 | [],j => by simp
 | a :: l,j => by
  rw [List.flatMap_cons]
  by_cases h : j < 33
  · rw [List.getElem?_append_left (by rw [h4]; exact h),show j / 33 = 0 by omega,show j % 33 = j by omega]
    simp
  · rw [List.getElem?_append_right (by rw [h4]; omega),h4,flatMap_get33 enc h4 l (j - 33),show j / 33 = (j - 33) / 33 + 1 by omega,show j % 33 = (j - 33) % 33 by omega,List.getElem?_cons_succ]
end Go.Proofs.YtelombedjkbckaaGreatDoor
namespace Go.Proofs.YtelombedjkbckaaGreatDoor
set_option linter.unusedSimpArgs false
set_option linter.unusedVariables false
open Go Go.RowKit Go.Shelf Go.Maps
theorem wpList_midA {P : Program} {ops : Array Oper} {rest : List Oper} {op : Oper} {a : Act} {w : World} {Q : Exit → Act → World → Prop} (hw : Region.wanted op (yielded ops a.tmps) = true) (ty : TypeId) (x : Operand) (ho : op.op = .load ty x)
 (b o : Nat) (hx : a.eval x = .pointer (some ⟨b,o,none⟩)) (N : Array Value) (d : TypeDesc) (hc : w.rangeAt b o N.toList)
 (hu : P.underlying ty = some d) (hd : d.isRow = true) (hi : (P.info? ty).map (·.size) = some N.toList.length)
 (h : wpList P ops Q rest (a.put op.dst (.agg N)) w) : wpList P ops Q (op :: rest) a w:=by
 refine wpList_mid hw ty x ho b o hx N.toList d hc hu hd hi ?_
 rwa [Array.toArray_toList]
theorem putA_len {α : Type} (k : Ad) (c : α) : ∀ (done : Bool) (l : List (Ad × α)),(putA k c done l).length ≤ l.length + 1
 | done,[] => by unfold putA; cases done <;> simp
 | done,e :: l => by
  unfold putA
  split
  · exact Nat.le_trans (putA_len k c done l) (by simp)
  split
  · have : (putA k c true l).length ≤ l.length:=by rw [putA_true_filter]; exact List.length_filter_le _ _
    simp only [List.length_cons]; omega
  · have:=putA_len k c done l
    simp only [List.length_cons]; omega
theorem playL_len : ∀ (l : List (Ad × Ct)) {M : List (Ad × Ct)},(l.foldl (fun M e => (putR M e.1 e.2).1) M).length ≤ M.length + l.length
 | [],M => by simp
 | e :: l,M => by
  rw [List.foldl_cons]
  refine Nat.le_trans (playL_len l) ?_
  have : (putR M e.1 e.2).1.length ≤ M.length + 1:=by
   rw [putR_eq]
   split
   · simp
   split
   · simp
   exact putA_len _ _ _ _
  simp only [List.length_cons]
  omega
theorem wp_calmT {P : Program} {c : Code} {Q : Exit → Act → World → Prop} {a : Act} {w : World} (h : c.wp P (Exit.then (fun a w => Q .normal a w) (fun _ _ _ => False)) a w) : c.wp P Q a w:=wp_mono h (fun e a w h => by cases e <;> first | exact h | exact h.elim)
end Go.Proofs.YtelombedjkbckaaGreatDoor
namespace Go.Proofs.YtelombedjkbckaaGreatDoor
set_option linter.unusedSimpArgs false
set_option linter.unusedVariables false
open Go Go.RowKit Go.Shelf Go.Maps
theorem put_out {M : List (Ad × Ct)} (hM : InOrder M) (a : Ad) (x : Ct) : (putR (putR M a x).1 a zCt).1 = (putR M a zCt).1:=by
 refine order_ext (putR_order (putR_order hM a x) a zCt) (putR_order hM a zCt) (fun k => ?_)
 rw [getA_putR,getA_putR,getA_putR]
 by_cases h : k = a ∧ a.is = true ∧ rightC zCt = true
 · rw [if_pos h,if_pos h]
 · rw [if_neg h,if_neg h]
   by_cases h2 : k = a ∧ a.is = true ∧ rightC x = true
   · exact absurd ⟨h2.1,h2.2.1,by decide⟩ h
   · rw [if_neg h2]
def TwR (w : World) (b pa pb : Nat) (Ma Mb : List (Ad × Ct)) (i j : Nat) (X : Nat → Prop) (W : World) : Prop :=
 ∃ Za Zb : Nat → Prop,StZ W pa i Ma Za ∧ StZ W pb j Mb Zb ∧ (∀ k,Za k → b ≤ k ∧ k < W.heap.size ∧ ¬ Zb k) ∧ (∀ k,Zb k → b ≤ k ∧ k < W.heap.size) ∧ Below b w W ∧ b ≤ W.heap.size ∧ ∀ k,X k → k < W.heap.size ∧ ¬ Za k ∧ ¬ Zb k
section
variable {w W : World} {b pa pb i j : Nat} {Ma Mb : List (Ad × Ct)} {X : Nat → Prop}
theorem TwR.below_ (h : TwR w b pa pb Ma Mb i j X W) : Below b w W ∧ b ≤ W.heap.size:=by
 obtain ⟨Za,Zb,h1,h2,h3,h4,h5,h6,h7⟩:=h
 exact ⟨h5,h6⟩
theorem TwR.below {W' : World} (h : TwR w b pa pb Ma Mb i j X W) (hb : Below W.heap.size W W') : TwR w b pa pb Ma Mb i j X W':=by
 obtain ⟨Za,Zb,h1,h2,h3,h4,h5,h6,h7⟩:=h
 have hs:=hb.size
 exact ⟨Za,Zb,h1.below hb,h2.below hb,fun k hk => ⟨(h3 k hk).1,by have:=(h3 k hk).2.1; omega,(h3 k hk).2.2⟩,fun k hk => ⟨(h4 k hk).1,by have:=(h4 k hk).2; omega⟩,h5.trans (hb.mono h6),by omega,fun k hk => ⟨by have:=(h7 k hk).1; omega,(h7 k hk).2⟩⟩
theorem TwR.drop (h : TwR w b pa pb Ma Mb i j X W) : TwR w b pa pb Ma Mb i j (fun _ => False) W:=by
 obtain ⟨Za,Zb,h1,h2,h3,h4,h5,h6,h7⟩:=h
 exact ⟨Za,Zb,h1,h2,h3,h4,h5,h6,fun k hk => hk.elim⟩
theorem TwR.more {i' j' : Nat} (h : TwR w b pa pb Ma Mb i j X W) (hi : i ≤ i') (hj : j ≤ j') : TwR w b pa pb Ma Mb i' j' X W:=by
 obtain ⟨Za,Zb,h1,h2,h3⟩:=h
 exact ⟨Za,Zb,h1.more hi,h2.more hj,h3⟩
theorem TwR.box (h : TwR w b pa pb Ma Mb i j X W) (o : Obj) : TwR w b pa pb Ma Mb i j (fun k => k = W.heap.size) (W.alloc o):=by
 have hb : Below W.heap.size W (W.alloc o):=(Below.refl _ W).alloc (Nat.le_refl _) o
 obtain ⟨Za,Zb,h1,h2,h3,h4,h5,h6,h7⟩:=h.below hb
 obtain ⟨Za',Zb',g1,g2,g3,g4,g5,g6,g7⟩:=h
 exact ⟨Za',Zb',g1.below hb,g2.below hb,fun k hk => ⟨(g3 k hk).1,by have:=(g3 k hk).2.1; simp; omega,(g3 k hk).2.2⟩,fun k hk => ⟨(g4 k hk).1,by have:=(g4 k hk).2; simp; omega⟩,h5,h6,fun k hk => ⟨by rw [hk]; simp,fun q => by have:=(g3 k q).2.1; omega,fun q => by have:=(g4 k q).2; omega⟩⟩
theorem TwR.putA (h : TwR w b pa pb Ma Mb i j X W) (hi : i < 100000) (hM : Ma.length < 10000) (a : Ad) (ha : a.ok) (x : Ct) (A : Option Addr) (c : Nat) (hv : x.v.ok) (hd : x.t.d.ok) (hs : SlAt W W.heap.size A c x.t.l) (hsz : x.t.size ≤ 1048576) :
 Calls Tryz.prog 13 #[.pointer (some ⟨pa,0,none⟩),.agg a.cs.toArray,.agg (contA x A c)] W fun e w' => (∃ er : Int,e = .returned (.int .i64 er)) ∧ TwR w b pa pb (putR Ma a x).1 Mb (i + 1) j X w' ∧ Below b W w' ∧ W.heap.size ≤ w'.heap.size ∧ ∀ k,X k → w'.heap[k]? = W.heap[k]?:=by
 obtain ⟨Za,Zb,h1,h2,h3,h4,h5,h6,h7⟩:=h
 refine (putZ_c h1 hi hM a ha x A c hv hd hs hsz).mono ?_
 rintro e w' ⟨rfl,k1,k2⟩
 have hb : Below b W w':=⟨k2.os,k2.tape,k2.output,k2.size,fun k hk => k2.block k (by omega) (fun h' => by have:=(h3 k h').1; omega)⟩
 have hsz:=k2.size
 refine ⟨⟨_,rfl⟩,⟨fun b => Za b ∨ (W.heap.size ≤ b ∧ b < w'.heap.size),Zb,k1,h2.keep k2 (fun k hk hk' => (h3 k hk').2.2 hk),fun k hk => ?_,fun k hk => ⟨(h4 k hk).1,by have:=(h4 k hk).2; omega⟩,h5.trans hb,by omega,fun k hk => ⟨by have:=(h7 k hk).1; omega,fun q => ?_,(h7 k hk).2.2⟩⟩,hb,hsz,fun k hk => k2.block k (h7 k hk).1 (h7 k hk).2.1⟩
 · rcases hk with hk | hk
   · exact ⟨(h3 k hk).1,by have:=(h3 k hk).2.1; omega,(h3 k hk).2.2⟩
   · exact ⟨by omega,hk.2,fun hb' => by have:=(h4 k hb').2; omega⟩
 · rcases q with q | q
   · exact (h7 k hk).2.1 q
   · have:=(h7 k hk).1; omega
theorem TwR.turn (h : TwR w b pa pb Ma Mb i j X W) : TwR w b pb pa Mb Ma j i X W:=by
 obtain ⟨Za,Zb,h1,h2,h3,h4,h5,h6,h7⟩:=h
 exact ⟨Zb,Za,h2,h1,fun k hk => ⟨(h4 k hk).1,(h4 k hk).2,fun q => (h3 k q).2.2 hk⟩,fun k hk => ⟨(h3 k hk).1,(h3 k hk).2.1⟩,h5,h6,fun k hk => ⟨(h7 k hk).1,(h7 k hk).2.2,(h7 k hk).2.1⟩⟩
theorem TwR.putB (h : TwR w b pa pb Ma Mb i j X W) (hj : j < 100000) (hM : Mb.length < 10000) (a : Ad) (ha : a.ok) (x : Ct) (A : Option Addr) (c : Nat) (hv : x.v.ok) (hd : x.t.d.ok) (hs : SlAt W W.heap.size A c x.t.l) (hsz : x.t.size ≤ 1048576) :
 Calls Tryz.prog 13 #[.pointer (some ⟨pb,0,none⟩),.agg a.cs.toArray,.agg (contA x A c)] W fun e w' => (∃ er : Int,e = .returned (.int .i64 er)) ∧ TwR w b pa pb Ma (putR Mb a x).1 i (j + 1) X w' ∧ Below b W w' ∧ W.heap.size ≤ w'.heap.size ∧ ∀ k,X k → w'.heap[k]? = W.heap[k]? :=
 (h.turn.putA hj hM a ha x A c hv hd hs hsz).mono fun e w' ⟨h1,h2,h3⟩ => ⟨h1,h2.turn,h3⟩
end
end Go.Proofs.YtelombedjkbckaaGreatDoor
