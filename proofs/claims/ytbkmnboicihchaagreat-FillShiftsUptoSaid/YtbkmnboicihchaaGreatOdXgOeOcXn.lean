/- Put of a store of cells that has a map: any content that isn't empty. Put of a store of cells that has no map: a value. Put of a store of cells that has no map: any content that isn't empty. Get of a store of cells,any content. Put of a store of cells that is full; of nothing. -/
import Derived.Test.YtbkmnboicihchaaGreatXbXcXdXeXf
import Derived.Test.YtbkmnboicihchaaGreatHcOaOb
import Derived.StillTailTactics
namespace Go.Proofs.YtbkmnboicihchaaGreat
set_option maxRecDepth 100000
set_option maxHeartbeats 4000000
set_option linter.unusedSimpArgs false
set_option linter.unusedVariables false
open Go Go.RowKit Go.Shelf Go.Maps
theorem NodeAt.keepP {w w' : World} {B p : Nat} {m : Option Nat} {cs : Array Value} {T : TypeId} (hp : w.heap[p]? = some (.cells cs T)) (hs : cs.size < 22) (hm : ∀ b,m = some b → ∀ x : Addr,x.block = b → w.cell? x = none) (hB : B ≤ w.heap.size) (hk : KeepP p m w w') (t : Tr) : ∀ b o,NodeAt w B b o t → NodeAt w' B b o t:=by
 induction t using Tr.ind with
 | _ d l ih =>
   intro b o h
   simp only [NodeAt] at h ⊢
   obtain ⟨hb,hd,A,c,hc,h1,h2,h3⟩:=h
   have hbp : b ≠ p:=fun e => by
     have h21:=hc 21 (by omega)
     rw [e,Lib.cell_of_heap hp] at h21
     have hn : cs[o + 21]? = none:=Array.getElem?_eq_none (by omega)
     rw [hn] at h21
     cases h21
   have hbm : m ≠ some b:=fun e => by
     have h21:=hc 21 (by omega)
     rw [hm b e _ rfl] at h21
     cases h21
   refine ⟨hb,hd,A,c,hc.keep (fun q hq => World.cell?_of_block (a:=q) (hk.block q.block (by omega) (by omega) (by rw [hq]; exact hbm))),h1,h2,?_⟩
   rcases h3 with rfl | ⟨b',o',hA,hkids⟩
   · exact .inl rfl
   · exact .inr ⟨b',o',hA,KidsAt.of (fun i hi => ih _ (List.getElem_mem hi) _ _ (hkids.get i hi))⟩
theorem SlAt.keepP {w w' : World} {B p : Nat} {m : Option Nat} {cs : Array Value} {T : TypeId} (hp : w.heap[p]? = some (.cells cs T)) (hs : cs.size < 22) (hm : ∀ b,m = some b → ∀ x : Addr,x.block = b → w.cell? x = none) (hB : B ≤ w.heap.size) (hk : KeepP p m w w') {A : Option Addr} {c : Nat} {l : List Tr} (h : SlAt w B A c l) : SlAt w' B A c l:=by
 obtain ⟨h1,h2,h3⟩:=h
 refine ⟨h1,h2,?_⟩
 rcases h3 with rfl | ⟨b',o',hA,hkids⟩
 · exact .inl rfl
 · exact .inr ⟨b',o',hA,KidsAt.of (fun i hi => NodeAt.keepP hp hs hm hB hk _ _ _ (hkids.get i hi))⟩
theorem StAt.no_cell {w : World} {p : Nat} {m : Option Nat} {n : Nat} {D : DataW Value} (h : StAt w p m n D) : ∀ b,m = some b → ∀ x : Addr,x.block = b → w.cell? x = none:=by
 intro b e x hx
 subst e
 obtain ⟨es,clock,e1,-⟩:=h.2
 subst hx
 unfold World.cell?
 rw [e1]
theorem put_someC (w : World) (p g n : Nat) (D : DataW Value) (h : StAt w p (some g) n D) (hn : n < 1000000) (a : Ad) (ha : a.ok) (his : a.is = true) (x : Ct) (A : Option Addr) (c : Nat) (hx1 : x.k ≠ 0) (hr : rightC x = true) (hv : x.v.ok) (hd : x.t.d.ok) (B : Nat) (hs : SlAt w B A c x.t.l) (hB : B ≤ w.heap.size) (hsz : x.t.size ≤ 1048576) (ok : Bool) (hok : Maps.has D a.key = ok) (hroom : ok = true ∨ Maps.size D < 10000) :
   Calls Tryz.prog 17 #[.pointer (some ⟨p,0,none⟩),a.val,contV x A c] w fun e w' => e = .returned (.int .i64 0) ∧ ∃ A2 c2,StAt w' p (some g) (n + 1) (D.put a.key (.held (contV (cpC x) A2 c2))) ∧ SlG w' (fun b _ => w.heap.size ≤ b ∧ b < w'.heap.size) A2 c2 (cpC x).t.l ∧ KeepP p (some g) w w':=by
 obtain ⟨ra,rn,ca,cn⟩:=a
 obtain ⟨W0,hW0⟩ : ∃ W0,W0 = (w.alloc (.cells #[.int .i64 ra,.int .i64 rn,.int .i64 ca,.int .i64 cn] 36)).alloc (.cells (contA x A c) 68):=⟨_,rfl⟩
 have hbel : Below w.heap.size w W0:=by rw [hW0]; exact ((Below.refl _ w).alloc (Nat.le_refl _) _).alloc (by simp) _
 have hz0 : W0.heap.size = w.heap.size + 2:=by rw [hW0]; simp
 have hk0 : W0.heap[w.heap.size]? = some (.cells #[.int .i64 ra,.int .i64 rn,.int .i64 ca,.int .i64 cn] 36):=by rw [hW0]; exact (heapOld _ _ _ (by simp)).trans (heap_alloc_new _ _)
 have hk1 : W0.heap[w.heap.size + 1]? = some (.cells (contA x A c) 68):=by
   rw [hW0]
   have:=heap_alloc_new (w.alloc (.cells #[.int .i64 ra,.int .i64 rn,.int .i64 ca,.int .i64 cn] 36)) (.cells (contA x A c) 68)
   rwa [World.size_alloc] at this
 have hpl : p < w.heap.size:=(Array.getElem?_eq_some_iff.1 h.1).1
 have hgl : g < w.heap.size:=by have : w.ownsMap Tryz.prog 36 heldR g n D:=h.2; exact this.lt
 have hpg : p ≠ g:=fun e => by
   have h1:=h.1
   obtain ⟨es,clock,e1,-⟩:=h.2
   rw [e,e1] at h1; cases h1
 have HPG:=Lib.hid hpg
 clear hpg
 have hst : ∀ wx,Below W0.heap.size W0 wx → StAt wx p (some g) n D:=fun wx hx => (h.below hbel).below hx
 have hI : ∀ wx,Calls Tryz.prog 42 #[.agg #[.int .i64 ra,.int .i64 rn,.int .i64 ca,.int .i64 cn]] wx fun e w' => e = .returned (.bool true) ∧ Below wx.heap.size wx w':=fun wx => by have:=isCell_c ra rn ca cn wx; rw [show isCellB ra rn ca cn = true from his] at this; exact this
 have hR : ∀ wx,Below W0.heap.size W0 wx → Calls Tryz.prog 43 #[contV x A c] wx fun e w' => e = .returned (.bool true) ∧ Below wx.heap.size wx w':=fun wx hx => by
   have:=cright_c x wx B A c hv hd ((hs.below (hbel.mono hB)).below (hx.mono (by omega))) (by have:=hx.size; omega) (by omega)
   rwa [hr] at this
 have hcp:=fun (wx : World) (hx : KeepP p (some g) w wx) => copied_any x wx A c hd ((SlAt.keepP h.1 (show (1 : Nat) < 22 by decide) h.no_cell hB hx hs).more (Nat.le_trans hB hx.size)) hsz
 obtain ⟨kx,hkx⟩ : ∃ kx,kx = x.k:=⟨_,rfl⟩
 have hq0 : ¬ kx = 0:=by rw [hkx]; exact hx1
 have hkk : ∀ wx,Below W0.heap.size W0 wx → wx.cell? ⟨w.heap.size + 1,0,none⟩ = some (.int .i64 kx):=fun wx hx => by rw [hkx]; exact (cont_row ((hx.block (w.heap.size + 1) (by omega)).trans hk1)).1
 have hka : ∀ wx,Below W0.heap.size W0 wx → wx.heap[w.heap.size + 1]? = some (.cells (contA x A c) 68):=fun wx hx => (hx.block (w.heap.size + 1) (by omega)).trans hk1
 have hkb : ∀ wx,Below W0.heap.size W0 wx → wx.heap[w.heap.size]? = some (.cells #[.int .i64 ra,.int .i64 rn,.int .i64 ca,.int .i64 cn] 36):=fun wx hx => (hx.block w.heap.size (by omega)).trans hk0
 have hix : (Tryz.prog.info? 68).map (·.size) = some (contA x A c).size:=infC
 obtain ⟨y,hy⟩ : ∃ y,y = cpC x:=⟨_,rfl⟩
 rw [contV] at hR
 simp only [contV] at hcp
 rw [← hy] at hcp ⊢
 obtain ⟨CA,hCA⟩ : ∃ C,C = contA x A c:=⟨_,rfl⟩
 obtain ⟨b,hb⟩ : ∃ b,b = w.heap.size:=⟨_,rfl⟩
 rw [show contV x A c = .agg CA by rw [hCA]]
 simp only [← hCA] at hka hR hcp hix hW0
 have hil : (Tryz.prog.info? 68).map (·.size) = some CA.toList.length:=by rw [Array.length_toList]; exact hix
 rw [← hb] at hka hkb hkk hpl hgl hz0
 simp only [Ad.val]
 obtain ⟨sz,hsz0⟩ : ∃ sz,sz = Maps.size D:=⟨_,rfl⟩
 rw [← hsz0] at hroom
 have HW0:=Lib.hid hW0
 have HST:=Lib.hid hst
 have HI:=Lib.hid hI
 have HR:=Lib.hid hR
 have HCP:=Lib.hid hcp
 have HKK:=Lib.hid hkk
 have HKA:=Lib.hid hka
 have HKB:=Lib.hid hkb
 have HIX:=Lib.hid hix
 have HIL:=Lib.hid hil
 have HA:=Lib.hid ha
 have HOK:=Lib.hid hok
 have HB:=Lib.hid hb
 have HBEL:=Lib.hid hbel
 have HSZ:=Lib.hid hsz0
 have HPL:=Lib.hid hpl
 have HGL:=Lib.hid hgl
 have HZ:=Lib.hid hz0
 clear hW0 hst hI hR hcp hkk hka hkb hix hil ha hok hb hbel hk0 hk1 hCA hs hd hv hr hx1 hkx h his hsz hsz0 hy hpl hgl hz0 hB
 have hb00 : Below W0.heap.size W0 W0:=Below.refl _ _
 have hrgb : ∀ wx,Below W0.heap.size W0 wx → wx.rangeAt b 0 [.int .i64 ra,.int .i64 rn,.int .i64 ca,.int .i64 cn]:=fun wx hx => ad_range (HKB.out wx hx)
 have HRGB:=Lib.hid hrgb
 clear hrgb
 go_enter Tryz.func17,Tryz.ntmps17
 go_upto_region 1 with (fail)
 rw [← HW0.out,← HB.out]
 go_wp2_with (first | (refine wpList_mid rfl 36 _ rfl b 0 rfl _ _ (HRGB.out _ hb00) undCell rfl infCell ?_) | (go_at_call 42; refine (HI.out W0).mono ?_; rintro e w1 ⟨rfl,hb1⟩) | (refine wpList_row rfl 68 _ rfl (b + 1) rfl 68 CA (0,0) _ (HKA.out _ hb1) undC rfl HIX.out ?_) | (go_at_call 43; refine (HR.out _ hb1).mono ?_; rintro e w2 ⟨rfl,hbr⟩; have hb2:=hb1.trans (hbr.mono hb1.size); have hkc:=HKK.out _ hb2))
 clear hb1 hbr hb00 hkc
 obtain ⟨cs,hl0,hcs,hcz,hco⟩:=look_st (HST.out w2 hb2) ⟨ra,rn,ca,cn⟩ HA.out
 have hl : ∀ wx,Below w2.heap.size w2 wx → (Instr.lookup 108 (.map (some g)) (.agg #[.int .i64 ra,.int .i64 rn,.int .i64 ca,.int .i64 cn]) true).run Tryz.prog wx = .ok (.tuple #[.agg cs,.bool ok]) wx:=fun wx hx => by
   obtain ⟨cs',hl',hv',-⟩:=look_st (HST.out wx (hb2.trans (hx.mono hb2.size))) ⟨ra,rn,ca,cn⟩ HA.out
   rw [hcs] at hv'
   obtain rfl : cs = cs':=by injection hv' with hv'; injection hv'
   rw [HOK.out] at hl'
   exact hl'
 have hcw : ∀ wx,Below w2.heap.size w2 wx → wx.cell? ⟨p,0,none⟩ = some (.map (some g)):=fun wx hx => cell_of_row _ _ 0 _ _ _ (HST.out wx (hb2.trans (hx.mono hb2.size))).1
 have hrg : ∀ wx,Below w2.heap.size w2 wx → wx.rangeAt b 0 [.int .i64 ra,.int .i64 rn,.int .i64 ca,.int .i64 cn]:=fun wx hx => HRGB.out wx (hb2.trans (hx.mono hb2.size))
 have hs1 : Below w2.heap.size w2 (w2.drew.alloc (.cells (contA zCt none 0) 68)):=(Below.refl _ _).drew.alloc (Nat.le_refl _) _
 have hs2 : Below w2.heap.size w2 (w2.drew.alloc (.cells cs 68)):=(Below.refl _ _).drew.alloc (Nat.le_refl _) _
 have hixc : (Tryz.prog.info? 68).map (·.size) = some cs.size:=by rw [hcz]; exact infC
 have hzc : (contA zCt none 0).size = cs.size:=by rw [hcz]; rfl
 obtain ⟨q,hq⟩ : ∃ q,w2.drew.heap.size = q:=⟨_,rfl⟩
 obtain ⟨W3,hW3⟩ : ∃ W3,W3 = w2.drew.alloc (.cells cs 68):=⟨_,rfl⟩
 have hb3 : Below W0.heap.size W0 W3:=by rw [hW3]; exact hb2.trans (hs2.mono hb2.size)
 have HL:=Lib.hid hl
 have HCP0:=Lib.hid hcw
 have HRG:=Lib.hid hrg
 have HS1:=Lib.hid hs1
 have HS2:=Lib.hid hs2
 have HIXC:=Lib.hid hixc
 have HZX:=Lib.hid hzc
 have HOX:=Lib.hid hco
 have HZ0:=Lib.hid hq
 have HW3:=Lib.hid hW3
 have HB3:=Lib.hid hb3
 clear hl hcw hrg hs1 hs2 hixc hzc hco hq hW3 hb3 hl0 hcs hcz
 refine wp_region_held_drew (S:=fun wx => Below w2.heap.size w2 wx) (by kernel_rfl) (Below.refl _ _).drew (fun hHeld => ?_)
 refine wpAnyH_take (i:=0) (v:=(.pointer (some ⟨p,0,none⟩))) rfl (by kernel_rfl) (by kernel_rfl) (by kernel_rfl) (fun _ _ _ h => h) (Or.inl ⟨by kernel_rfl,fun _ hS => by kernel_rfl⟩) hHeld ?_
 try simp only [sX]
 refine wpAnyH_take (i:=1) (v:=(.pointer (some ⟨p,0,none⟩))) rfl (by kernel_rfl) (by kernel_rfl) (by kernel_rfl) (fun _ _ _ h => h) (Or.inl ⟨by kernel_rfl,fun _ hS => by kernel_rfl⟩) hHeld ?_
 try simp only [sX]
 refine wpAnyH_take (i:=2) (v:=(.pointer (some ⟨p,0,none⟩))) rfl (by kernel_rfl) (by kernel_rfl) (by kernel_rfl) (fun _ _ _ h => h) (Or.inl ⟨by kernel_rfl,fun _ hS => by kernel_rfl⟩) hHeld ?_
 try simp only [sX]
 refine wpAnyH_take (i:=3) (v:=(.map (some g))) rfl (by kernel_rfl) (by kernel_rfl) (by kernel_rfl) (fun _ _ _ h => h) (Or.inl ⟨by kernel_rfl,fun _ hS => ld_mp _ rfl ⟨p,0,none⟩ rfl _ (HCP0.out _ hS)⟩) hHeld ?_
 try simp only [sX]
 refine wpAnyH_take (i:=4) (v:=.agg #[.int .i64 ra,.int .i64 rn,.int .i64 ca,.int .i64 cn]) rfl (by kernel_rfl) (by kernel_rfl) (by kernel_rfl) (fun _ _ _ h => h) (yieldsIf_load_mid (by kernel_rfl) 36 _ rfl b 0 rfl [.int .i64 ra,.int .i64 rn,.int .i64 ca,.int .i64 cn] _ (fun _ hS => HRG.out _ hS) undCell rfl infCell) hHeld ?_
 try simp only [sX]
 refine wpAnyH_take (i:=5) (v:=(.tuple #[.agg cs,.bool ok])) rfl (by kernel_rfl) (by kernel_rfl) (by kernel_rfl) (fun _ _ _ h => h) (Or.inl ⟨by kernel_rfl,fun _ hS => lk_run (mv:=.map (some g)) (kv:=.agg #[.int .i64 ra,.int .i64 rn,.int .i64 ca,.int .i64 cn]) _ _ rfl rfl rfl (HL.out _ hS)⟩) hHeld ?_
 try simp only [sX]
 refine wpAnyH_take (i:=6) (v:=(.tuple #[.agg cs,.bool ok])) rfl (by kernel_rfl) (by kernel_rfl) (by kernel_rfl) (fun _ _ _ h => h) (Or.inl ⟨by kernel_rfl,fun _ hS => by kernel_rfl⟩) hHeld ?_
 try simp only [sX]
 refine wpAnyH_take (i:=7) (v:=(.agg cs)) rfl (by kernel_rfl) (by kernel_rfl) (by kernel_rfl) (fun _ _ _ h => h) (Or.inl ⟨by kernel_rfl,fun _ hS => by kernel_rfl⟩) hHeld ?_
 try simp only [sX]
 refine wpAnyH_take (i:=8) (v:=(.bool ok)) rfl (by kernel_rfl) (by kernel_rfl) (by kernel_rfl) (fun _ _ _ h => h) (Or.inl ⟨by kernel_rfl,fun _ hS => by kernel_rfl⟩) hHeld ?_
 try simp only [sX]
 refine wpAnyH_contVar (i:=9) (by kernel_rfl) rfl rfl rfl q HZ0.out (HS1.out) (fun hHeld => ?_)
 try simp only [sX]
 refine wpAnyH_storeFresh (i:=10) (by kernel_rfl) rfl rfl 68 _ _ rfl q HZ0.out cs rfl rfl HIXC.out HZX.out HOX.out HS2.out (fun hHeld => ?_)
 try simp only [sX]
 refine wpAnyH_take (i:=11) (v:=(.bool ok)) rfl (by kernel_rfl) (by kernel_rfl) (by kernel_rfl) (fun _ _ _ h => h) (Or.inl ⟨by kernel_rfl,fun _ hS => by kernel_rfl⟩) hHeld ?_
 try simp only [sX]
 refine wpAnyH_done (by kernel_rfl) ?_ _
 rw [← HW3.out]
 have hst3:=HST.out W3 HB3.out
 have hc3 : W3.cell? ⟨p,0,none⟩ = some (.map (some g)):=cell_of_row _ _ 0 _ _ _ hst3.1
 have ho3 : W3.ownsMap Tryz.prog 36 heldR g n D:=hst3.2
 have hlen:=ho3.len undMp 3
 rw [← HSZ.out] at hlen
 have heq:=eqMapN
 have HO3:=Lib.hid ho3
 have HP3:=Lib.hid hst3.1
 clear hst3 ho3
 have hrg3 : ∀ wx,KeepP p (some g) W3 wx → wx.rangeAt b 0 [.int .i64 ra,.int .i64 rn,.int .i64 ca,.int .i64 cn]:=fun wx hx => ad_range ((hx.block b (by have:=HB3.out.size; have:=HZ.out; omega) (by have:=HPL.out; omega) (fun e => by have:=Option.some.inj e; have:=HGL.out; omega)).trans (HKB.out W3 HB3.out))
 have hka3 : ∀ wx,KeepP p (some g) W3 wx → wx.rangeAt (b + 1) 0 CA.toList:=fun wx hx => row_range_ ((hx.block (b + 1) (by have:=HB3.out.size; have:=HZ.out; omega) (by have:=HPL.out; omega) (fun e => by have:=Option.some.inj e; have:=HGL.out; omega)).trans (HKA.out W3 HB3.out)) _ _ (fun j v hv => by rw [Nat.zero_add]; simpa using hv)
 have HRG3:=Lib.hid hrg3
 have HKA3:=Lib.hid hka3
 clear hrg3 hka3
 have HKW:=Lib.hid (fun (wx : World) (h : KeepP p (some g) W3 wx) => KeepP.from_below (HBEL.out.trans (HB3.out.mono HBEL.out.size)) h)
 have hroom' : ok = true ∨ ¬ ((10000 : Int) ≤ (sz : Int)):=hroom.imp id (fun h => by omega)
 clear hroom
 cases ok
 case false =>
   have hr10 : decide ((10000 : Int) ≤ (sz : Int)) = false:=by
     rcases hroom' with h | h
     · cases h
     · simpa using h
   clear hroom'
   go_wp2
   refine wp_region_held_drew (S:=fun wx => KeepP p (some g) W3 wx ∧ wx.heap[p]? = some (.cells #[.map (some g)] 110)) (by kernel_rfl) ⟨KeepP.of_below (Below.refl _ _).drew,HP3.out⟩ (fun hHeld => ?_)
   refine wpAnyH_take (i:=0) (v:=(.pointer (some ⟨p,0,none⟩))) rfl (by kernel_rfl) (by kernel_rfl) (by kernel_rfl) (fun _ _ _ h => h) (Or.inl ⟨by kernel_rfl,fun _ hS => by kernel_rfl⟩) hHeld ?_
   try simp only [sX]
   refine wpAnyH_take (i:=1) (v:=(.pointer (some ⟨p,0,none⟩))) rfl (by kernel_rfl) (by kernel_rfl) (by kernel_rfl) (fun _ _ _ h => h) (Or.inl ⟨by kernel_rfl,fun _ hS => by kernel_rfl⟩) hHeld ?_
   try simp only [sX]
   refine wpAnyH_take (i:=2) (v:=(.pointer (some ⟨p,0,none⟩))) rfl (by kernel_rfl) (by kernel_rfl) (by kernel_rfl) (fun _ _ _ h => h) (Or.inl ⟨by kernel_rfl,fun _ hS => by kernel_rfl⟩) hHeld ?_
   try simp only [sX]
   refine wpAnyH_take (i:=3) (v:=(.map (some g))) rfl (by kernel_rfl) (by kernel_rfl) (by kernel_rfl) (fun _ _ _ h => h) (Or.inl ⟨by kernel_rfl,fun _ hS => ld_mp _ rfl ⟨p,0,none⟩ rfl _ (cell_of_row _ _ 0 _ _ _ hS.2)⟩) hHeld ?_
   try simp only [sX]
   refine wpAnyH_take (i:=4) (v:=.agg #[.int .i64 ra,.int .i64 rn,.int .i64 ca,.int .i64 cn]) rfl (by kernel_rfl) (by kernel_rfl) (by kernel_rfl) (fun _ _ _ h => h) (yieldsIf_load_mid (by kernel_rfl) 36 _ rfl b 0 rfl [.int .i64 ra,.int .i64 rn,.int .i64 ca,.int .i64 cn] _ (fun _ hS => HRG3.out _ hS.1) undCell rfl infCell) hHeld ?_
   try simp only [sX]
   refine wpAnyH_take (i:=5) (v:=.agg CA.toList.toArray) rfl (by kernel_rfl) (by kernel_rfl) (by kernel_rfl) (fun _ _ _ h => h) (yieldsIf_load_mid (by kernel_rfl) 68 _ rfl (b + 1) 0 rfl CA.toList _ (fun _ hS => HKA3.out _ hS.1) undC rfl HIL.out) hHeld ?_
   try simp only [sX]
   simp only [Array.toArray_toList]
   refine wpAnyH_ready (rs:=[6]) (by kernel_rfl) (by simp) ?_
   refine AllReadyH.cons rfl (fun K hK => ?_) AllReadyH.nil
   go_simp
   refine (HCP.out _ (HKW.out _ hHeld.1)).mono ?_
   rintro e w4 ⟨A2,c2,rfl,hsl4,hb4⟩
   have HSL4:=Lib.hid hsl4
   clear hsl4
   try go_simp
   have hH4 : KeepP p (some g) W3 w4 ∧ w4.heap[p]? = some (.cells #[.map (some g)] 110):=⟨hHeld.1.then_below hb4,(hb4.block p (Array.getElem?_eq_some_iff.1 hHeld.2).1).trans hHeld.2⟩
   have HO4:=Lib.hid (own_map_below HO3.out.drew hb4)
   have HP4:=Lib.hid hb4.size
   refine hK.out _ _ hH4 (fun hHeld4 => ?_)
   clear hK K hHeld hH4
   try simp only [sX]
   refine wpAnyH_put (i:=7) (by kernel_rfl) rfl rfl _ _ _ rfl g n D rfl ⟨ra,rn,ca,cn⟩ HA.out rfl y A2 c2 rfl (by unfold maxLen; omega) HO4.out (fun w' hg => ⟨hHeld4.1.then_map hg (.inl rfl),(hg.block p (Array.getElem?_eq_some_iff.1 hHeld4.2).1 (fun e => HPG.out (Option.some.inj e))).trans hHeld4.2⟩) (fun w5 ho5 hg5 hHeld5 => ?_)
   try simp only [sX]
   refine wpAnyH_done (by kernel_rfl) ?_ _
   go_wp2
   go_ret
   refine ⟨rfl,A2,c2,⟨hHeld5.2,ho5⟩,?_,KeepP.from_below (HBEL.out.trans (HB3.out.mono HBEL.out.size)) hHeld5.1⟩
   have hw3:=(HBEL.out.trans (HB3.out.mono HBEL.out.size)).size
   have hgl:=HGL.out
   have hbe:=HB.out
   refine HSL4.out.keep (fun b' _ h => ⟨by have h1 : W3.heap.size ≤ b':=h.1; omega,Nat.lt_of_lt_of_le h.2 hg5.size⟩) (fun b' o' h j _ => World.cell?_of_block (a:=⟨b',o' + j,none⟩) (hg5.block b' h.2 (fun e => by have:=Option.some.inj e; have h1 : W3.heap.size ≤ b':=h.1; omega)))
 case true =>
   clear hlen hroom'
   go_wp2
   refine wp_region_held_drew (S:=fun wx => KeepP p (some g) W3 wx ∧ wx.heap[p]? = some (.cells #[.map (some g)] 110)) (by kernel_rfl) ⟨KeepP.of_below (Below.refl _ _).drew,HP3.out⟩ (fun hHeld => ?_)
   refine wpAnyH_take (i:=0) (v:=(.pointer (some ⟨p,0,none⟩))) rfl (by kernel_rfl) (by kernel_rfl) (by kernel_rfl) (fun _ _ _ h => h) (Or.inl ⟨by kernel_rfl,fun _ hS => by kernel_rfl⟩) hHeld ?_
   try simp only [sX]
   refine wpAnyH_take (i:=1) (v:=(.pointer (some ⟨p,0,none⟩))) rfl (by kernel_rfl) (by kernel_rfl) (by kernel_rfl) (fun _ _ _ h => h) (Or.inl ⟨by kernel_rfl,fun _ hS => by kernel_rfl⟩) hHeld ?_
   try simp only [sX]
   refine wpAnyH_take (i:=2) (v:=(.pointer (some ⟨p,0,none⟩))) rfl (by kernel_rfl) (by kernel_rfl) (by kernel_rfl) (fun _ _ _ h => h) (Or.inl ⟨by kernel_rfl,fun _ hS => by kernel_rfl⟩) hHeld ?_
   try simp only [sX]
   refine wpAnyH_take (i:=3) (v:=(.map (some g))) rfl (by kernel_rfl) (by kernel_rfl) (by kernel_rfl) (fun _ _ _ h => h) (Or.inl ⟨by kernel_rfl,fun _ hS => ld_mp _ rfl ⟨p,0,none⟩ rfl _ (cell_of_row _ _ 0 _ _ _ hS.2)⟩) hHeld ?_
   try simp only [sX]
   refine wpAnyH_take (i:=4) (v:=.agg #[.int .i64 ra,.int .i64 rn,.int .i64 ca,.int .i64 cn]) rfl (by kernel_rfl) (by kernel_rfl) (by kernel_rfl) (fun _ _ _ h => h) (yieldsIf_load_mid (by kernel_rfl) 36 _ rfl b 0 rfl [.int .i64 ra,.int .i64 rn,.int .i64 ca,.int .i64 cn] _ (fun _ hS => HRG3.out _ hS.1) undCell rfl infCell) hHeld ?_
   try simp only [sX]
   refine wpAnyH_take (i:=5) (v:=.agg CA.toList.toArray) rfl (by kernel_rfl) (by kernel_rfl) (by kernel_rfl) (fun _ _ _ h => h) (yieldsIf_load_mid (by kernel_rfl) 68 _ rfl (b + 1) 0 rfl CA.toList _ (fun _ hS => HKA3.out _ hS.1) undC rfl HIL.out) hHeld ?_
   try simp only [sX]
   simp only [Array.toArray_toList]
   refine wpAnyH_ready (rs:=[6]) (by kernel_rfl) (by simp) ?_
   refine AllReadyH.cons rfl (fun K hK => ?_) AllReadyH.nil
   go_simp
   refine (HCP.out _ (HKW.out _ hHeld.1)).mono ?_
   rintro e w4 ⟨A2,c2,rfl,hsl4,hb4⟩
   have HSL4:=Lib.hid hsl4
   clear hsl4
   try go_simp
   have hH4 : KeepP p (some g) W3 w4 ∧ w4.heap[p]? = some (.cells #[.map (some g)] 110):=⟨hHeld.1.then_below hb4,(hb4.block p (Array.getElem?_eq_some_iff.1 hHeld.2).1).trans hHeld.2⟩
   have HO4:=Lib.hid (own_map_below HO3.out.drew hb4)
   have HP4:=Lib.hid hb4.size
   refine hK.out _ _ hH4 (fun hHeld4 => ?_)
   clear hK K hHeld hH4
   try simp only [sX]
   refine wpAnyH_put (i:=7) (by kernel_rfl) rfl rfl _ _ _ rfl g n D rfl ⟨ra,rn,ca,cn⟩ HA.out rfl y A2 c2 rfl (by unfold maxLen; omega) HO4.out (fun w' hg => ⟨hHeld4.1.then_map hg (.inl rfl),(hg.block p (Array.getElem?_eq_some_iff.1 hHeld4.2).1 (fun e => HPG.out (Option.some.inj e))).trans hHeld4.2⟩) (fun w5 ho5 hg5 hHeld5 => ?_)
   try simp only [sX]
   refine wpAnyH_done (by kernel_rfl) ?_ _
   go_wp2
   go_ret
   refine ⟨rfl,A2,c2,⟨hHeld5.2,ho5⟩,?_,KeepP.from_below (HBEL.out.trans (HB3.out.mono HBEL.out.size)) hHeld5.1⟩
   have hw3:=(HBEL.out.trans (HB3.out.mono HBEL.out.size)).size
   have hgl:=HGL.out
   have hbe:=HB.out
   refine HSL4.out.keep (fun b' _ h => ⟨by have h1 : W3.heap.size ≤ b':=h.1; omega,Nat.lt_of_lt_of_le h.2 hg5.size⟩) (fun b' o' h j _ => World.cell?_of_block (a:=⟨b',o' + j,none⟩) (hg5.block b' h.2 (fun e => by have:=Option.some.inj e; have h1 : W3.heap.size ≤ b':=h.1; omega)))
end Go.Proofs.YtbkmnboicihchaaGreat
namespace Go.Proofs.YtbkmnboicihchaaGreat
open Go Go.RowKit Go.Shelf Go.Maps
theorem KeepP.from_none {p q : Nat} {w w' w'' : World} (h : KeepP p none w w') (h' : KeepP p (some q) w' w'') (hq : w.heap.size ≤ q) : KeepP p none w w'' :=
 ⟨h'.os.trans h.os,h'.tape.trans h.tape,h'.output.trans h.output,Nat.le_trans h.size h'.size,fun k hk h1 _ => (h'.block k (Nat.lt_of_lt_of_le hk h.size) h1 (fun e => by have:=Option.some.inj e; omega)).trans (h.block k hk h1 (by simp))⟩
theorem mk_map3 (w : World) : (Instr.makeMap 108 none).run Tryz.prog w = .ok (.map (some w.heap.size)) (w.alloc (.map #[] 0)):=by kernel_rfl
end Go.Proofs.YtbkmnboicihchaaGreat
namespace Go.Proofs.YtbkmnboicihchaaGreat
set_option maxRecDepth 100000
set_option maxHeartbeats 4000000
set_option linter.unusedSimpArgs false
set_option linter.unusedVariables false
open Go Go.RowKit Go.Shelf Go.Maps
theorem put_noneC (w : World) (p : Nat) (n : Nat) (D : DataW Value) (h : StAt w p none n D) (a : Ad) (ha : a.ok) (his : a.is = true) (x : Ct) (A : Option Addr) (c : Nat) (hx1 : x.k ≠ 0) (hr : rightC x = true) (hv : x.v.ok) (hd : x.t.d.ok) (B : Nat) (hs : SlAt w B A c x.t.l) (hB : B ≤ w.heap.size) (hsz : x.t.size ≤ 1048576) :
   Calls Tryz.prog 17 #[.pointer (some ⟨p,0,none⟩),a.val,contV x A c] w fun e w' => e = .returned (.int .i64 0) ∧ ∃ g A2 c2,w.heap.size ≤ g ∧ g < w'.heap.size ∧ StAt w' p (some g) 1 (D.put a.key (.held (contV (cpC x) A2 c2))) ∧ SlG w' (fun b _ => w.heap.size ≤ b ∧ b < w'.heap.size ∧ b ≠ g) A2 c2 (cpC x).t.l ∧ KeepP p none w w':=by
 obtain ⟨ra,rn,ca,cn⟩:=a
 obtain ⟨W0,hW0⟩ : ∃ W0,W0 = (w.alloc (.cells #[.int .i64 ra,.int .i64 rn,.int .i64 ca,.int .i64 cn] 36)).alloc (.cells (contA x A c) 68):=⟨_,rfl⟩
 have hbel : Below w.heap.size w W0:=by rw [hW0]; exact ((Below.refl _ w).alloc (Nat.le_refl _) _).alloc (by simp) _
 have hz0 : W0.heap.size = w.heap.size + 2:=by rw [hW0]; simp
 have hk0 : W0.heap[w.heap.size]? = some (.cells #[.int .i64 ra,.int .i64 rn,.int .i64 ca,.int .i64 cn] 36):=by rw [hW0]; exact (heapOld _ _ _ (by simp)).trans (heap_alloc_new _ _)
 have hk1 : W0.heap[w.heap.size + 1]? = some (.cells (contA x A c) 68):=by
   rw [hW0]
   have:=heap_alloc_new (w.alloc (.cells #[.int .i64 ra,.int .i64 rn,.int .i64 ca,.int .i64 cn] 36)) (.cells (contA x A c) 68)
   rwa [World.size_alloc] at this
 have hpl : p < w.heap.size:=(Array.getElem?_eq_some_iff.1 h.1).1
 have hD : D = .map []:=h.2
 have hst : ∀ wx,Below W0.heap.size W0 wx → StAt wx p none n D:=fun wx hx => (h.below hbel).below hx
 have hI : ∀ wx,Calls Tryz.prog 42 #[.agg #[.int .i64 ra,.int .i64 rn,.int .i64 ca,.int .i64 cn]] wx fun e w' => e = .returned (.bool true) ∧ Below wx.heap.size wx w':=fun wx => by have:=isCell_c ra rn ca cn wx; rw [show isCellB ra rn ca cn = true from his] at this; exact this
 have hR : ∀ wx,Below W0.heap.size W0 wx → Calls Tryz.prog 43 #[contV x A c] wx fun e w' => e = .returned (.bool true) ∧ Below wx.heap.size wx w':=fun wx hx => by
   have:=cright_c x wx B A c hv hd ((hs.below (hbel.mono hB)).below (hx.mono (by omega))) (by have:=hx.size; omega) (by omega)
   rwa [hr] at this
 have hcp:=fun (wx : World) (hx : KeepP p none w wx) => copied_any x wx A c hd ((SlAt.keepP h.1 (show (1 : Nat) < 22 by decide) h.no_cell hB hx hs).more (Nat.le_trans hB hx.size)) hsz
 obtain ⟨kx,hkx⟩ : ∃ kx,kx = x.k:=⟨_,rfl⟩
 have hq0 : ¬ kx = 0:=by rw [hkx]; exact hx1
 have hkk : ∀ wx,Below W0.heap.size W0 wx → wx.cell? ⟨w.heap.size + 1,0,none⟩ = some (.int .i64 kx):=fun wx hx => by rw [hkx]; exact (cont_row ((hx.block (w.heap.size + 1) (by omega)).trans hk1)).1
 have hka : ∀ wx,Below W0.heap.size W0 wx → wx.heap[w.heap.size + 1]? = some (.cells (contA x A c) 68):=fun wx hx => (hx.block (w.heap.size + 1) (by omega)).trans hk1
 have hkb : ∀ wx,Below W0.heap.size W0 wx → wx.heap[w.heap.size]? = some (.cells #[.int .i64 ra,.int .i64 rn,.int .i64 ca,.int .i64 cn] 36):=fun wx hx => (hx.block w.heap.size (by omega)).trans hk0
 have hix : (Tryz.prog.info? 68).map (·.size) = some (contA x A c).size:=infC
 obtain ⟨y,hy⟩ : ∃ y,y = cpC x:=⟨_,rfl⟩
 rw [contV] at hR
 simp only [contV] at hcp
 rw [← hy] at hcp ⊢
 obtain ⟨CA,hCA⟩ : ∃ C,C = contA x A c:=⟨_,rfl⟩
 obtain ⟨b,hb⟩ : ∃ b,b = w.heap.size:=⟨_,rfl⟩
 rw [show contV x A c = .agg CA by rw [hCA]]
 simp only [← hCA] at hka hR hcp hix hW0
 have hil : (Tryz.prog.info? 68).map (·.size) = some CA.toList.length:=by rw [Array.length_toList]; exact hix
 rw [← hb] at hka hkb hkk hpl hz0
 simp only [Ad.val]
 have HW0:=Lib.hid hW0
 have HST:=Lib.hid hst
 have HI:=Lib.hid hI
 have HR:=Lib.hid hR
 have HCP:=Lib.hid hcp
 have HKK:=Lib.hid hkk
 have HKA:=Lib.hid hka
 have HKB:=Lib.hid hkb
 have HIX:=Lib.hid hix
 have HIL:=Lib.hid hil
 have HA:=Lib.hid ha
 have HB:=Lib.hid hb
 have HBEL:=Lib.hid hbel
 have HDD:=Lib.hid hD
 have HPL:=Lib.hid hpl
 have HZ:=Lib.hid hz0
 clear hW0 hst hI hR hcp hkk hka hkb hix hil ha hb hbel hk0 hk1 hCA hs hd hv hr hx1 hkx h his hsz hD hy hpl hz0 hB
 have hb00 : Below W0.heap.size W0 W0:=Below.refl _ _
 have hrgb : ∀ wx,Below W0.heap.size W0 wx → wx.rangeAt b 0 [.int .i64 ra,.int .i64 rn,.int .i64 ca,.int .i64 cn]:=fun wx hx => ad_range (HKB.out wx hx)
 have HRGB:=Lib.hid hrgb
 clear hrgb
 go_enter Tryz.func17,Tryz.ntmps17
 go_upto_region 1 with (fail)
 rw [← HW0.out,← HB.out]
 go_wp2_with (first | (refine wpList_mid rfl 36 _ rfl b 0 rfl _ _ (HRGB.out _ hb00) undCell rfl infCell ?_) | (go_at_call 42; refine (HI.out W0).mono ?_; rintro e w1 ⟨rfl,hb1⟩) | (refine wpList_row rfl 68 _ rfl (b + 1) rfl 68 CA (0,0) _ (HKA.out _ hb1) undC rfl HIX.out ?_) | (go_at_call 43; refine (HR.out _ hb1).mono ?_; rintro e w2 ⟨rfl,hbr⟩; have hb2:=hb1.trans (hbr.mono hb1.size); have hkc:=HKK.out _ hb2))
 clear hb1 hbr hb00 hkc
 obtain ⟨cs,hl0,hcs,hcz,hco⟩:=look_st (HST.out w2 hb2) ⟨ra,rn,ca,cn⟩ HA.out
 have hl : ∀ wx,Below w2.heap.size w2 wx → (Instr.lookup 108 (.map none) (.agg #[.int .i64 ra,.int .i64 rn,.int .i64 ca,.int .i64 cn]) true).run Tryz.prog wx = .ok (.tuple #[.agg cs,.bool false]) wx:=fun wx hx => by
   obtain ⟨cs',hl',hv',-⟩:=look_st (HST.out wx (hb2.trans (hx.mono hb2.size))) ⟨ra,rn,ca,cn⟩ HA.out
   rw [hcs] at hv'
   obtain rfl : cs = cs':=by injection hv' with hv'; injection hv'
   rw [HDD.out] at hl'
   exact hl'
 have hcw : ∀ wx,Below w2.heap.size w2 wx → wx.cell? ⟨p,0,none⟩ = some (.map none):=fun wx hx => cell_of_row _ _ 0 _ _ _ (HST.out wx (hb2.trans (hx.mono hb2.size))).1
 have hrg : ∀ wx,Below w2.heap.size w2 wx → wx.rangeAt b 0 [.int .i64 ra,.int .i64 rn,.int .i64 ca,.int .i64 cn]:=fun wx hx => HRGB.out wx (hb2.trans (hx.mono hb2.size))
 have hs1 : Below w2.heap.size w2 (w2.drew.alloc (.cells (contA zCt none 0) 68)):=(Below.refl _ _).drew.alloc (Nat.le_refl _) _
 have hs2 : Below w2.heap.size w2 (w2.drew.alloc (.cells cs 68)):=(Below.refl _ _).drew.alloc (Nat.le_refl _) _
 have hixc : (Tryz.prog.info? 68).map (·.size) = some cs.size:=by rw [hcz]; exact infC
 have hzc : (contA zCt none 0).size = cs.size:=by rw [hcz]; rfl
 obtain ⟨q,hq⟩ : ∃ q,w2.drew.heap.size = q:=⟨_,rfl⟩
 obtain ⟨W3,hW3⟩ : ∃ W3,W3 = w2.drew.alloc (.cells cs 68):=⟨_,rfl⟩
 have hb3 : Below W0.heap.size W0 W3:=by rw [hW3]; exact hb2.trans (hs2.mono hb2.size)
 have HL:=Lib.hid hl
 have HCP0:=Lib.hid hcw
 have HRG:=Lib.hid hrg
 have HS1:=Lib.hid hs1
 have HS2:=Lib.hid hs2
 have HIXC:=Lib.hid hixc
 have HZX:=Lib.hid hzc
 have HOX:=Lib.hid hco
 have HZ0:=Lib.hid hq
 have HW3:=Lib.hid hW3
 have HB3:=Lib.hid hb3
 clear hl hcw hrg hs1 hs2 hixc hzc hco hq hW3 hb3 hl0 hcs hcz
 refine wp_region_held_drew (S:=fun wx => Below w2.heap.size w2 wx) (by kernel_rfl) (Below.refl _ _).drew (fun hHeld => ?_)
 refine wpAnyH_take (i:=0) (v:=(.pointer (some ⟨p,0,none⟩))) rfl (by kernel_rfl) (by kernel_rfl) (by kernel_rfl) (fun _ _ _ h => h) (Or.inl ⟨by kernel_rfl,fun _ hS => by kernel_rfl⟩) hHeld ?_
 try simp only [sX]
 refine wpAnyH_take (i:=1) (v:=(.pointer (some ⟨p,0,none⟩))) rfl (by kernel_rfl) (by kernel_rfl) (by kernel_rfl) (fun _ _ _ h => h) (Or.inl ⟨by kernel_rfl,fun _ hS => by kernel_rfl⟩) hHeld ?_
 try simp only [sX]
 refine wpAnyH_take (i:=2) (v:=(.pointer (some ⟨p,0,none⟩))) rfl (by kernel_rfl) (by kernel_rfl) (by kernel_rfl) (fun _ _ _ h => h) (Or.inl ⟨by kernel_rfl,fun _ hS => by kernel_rfl⟩) hHeld ?_
 try simp only [sX]
 refine wpAnyH_take (i:=3) (v:=(.map none)) rfl (by kernel_rfl) (by kernel_rfl) (by kernel_rfl) (fun _ _ _ h => h) (Or.inl ⟨by kernel_rfl,fun _ hS => ld_mp _ rfl ⟨p,0,none⟩ rfl _ (HCP0.out _ hS)⟩) hHeld ?_
 try simp only [sX]
 refine wpAnyH_take (i:=4) (v:=.agg #[.int .i64 ra,.int .i64 rn,.int .i64 ca,.int .i64 cn]) rfl (by kernel_rfl) (by kernel_rfl) (by kernel_rfl) (fun _ _ _ h => h) (yieldsIf_load_mid (by kernel_rfl) 36 _ rfl b 0 rfl [.int .i64 ra,.int .i64 rn,.int .i64 ca,.int .i64 cn] _ (fun _ hS => HRG.out _ hS) undCell rfl infCell) hHeld ?_
 try simp only [sX]
 refine wpAnyH_take (i:=5) (v:=(.tuple #[.agg cs,.bool false])) rfl (by kernel_rfl) (by kernel_rfl) (by kernel_rfl) (fun _ _ _ h => h) (Or.inl ⟨by kernel_rfl,fun _ hS => lk_run (mv:=.map none) (kv:=.agg #[.int .i64 ra,.int .i64 rn,.int .i64 ca,.int .i64 cn]) _ _ rfl rfl rfl (HL.out _ hS)⟩) hHeld ?_
 try simp only [sX]
 refine wpAnyH_take (i:=6) (v:=(.tuple #[.agg cs,.bool false])) rfl (by kernel_rfl) (by kernel_rfl) (by kernel_rfl) (fun _ _ _ h => h) (Or.inl ⟨by kernel_rfl,fun _ hS => by kernel_rfl⟩) hHeld ?_
 try simp only [sX]
 refine wpAnyH_take (i:=7) (v:=(.agg cs)) rfl (by kernel_rfl) (by kernel_rfl) (by kernel_rfl) (fun _ _ _ h => h) (Or.inl ⟨by kernel_rfl,fun _ hS => by kernel_rfl⟩) hHeld ?_
 try simp only [sX]
 refine wpAnyH_take (i:=8) (v:=(.bool false)) rfl (by kernel_rfl) (by kernel_rfl) (by kernel_rfl) (fun _ _ _ h => h) (Or.inl ⟨by kernel_rfl,fun _ hS => by kernel_rfl⟩) hHeld ?_
 try simp only [sX]
 refine wpAnyH_contVar (i:=9) (by kernel_rfl) rfl rfl rfl q HZ0.out (HS1.out) (fun hHeld => ?_)
 try simp only [sX]
 refine wpAnyH_storeFresh (i:=10) (by kernel_rfl) rfl rfl 68 _ _ rfl q HZ0.out cs rfl rfl HIXC.out HZX.out HOX.out HS2.out (fun hHeld => ?_)
 try simp only [sX]
 refine wpAnyH_take (i:=11) (v:=(.bool false)) rfl (by kernel_rfl) (by kernel_rfl) (by kernel_rfl) (fun _ _ _ h => h) (Or.inl ⟨by kernel_rfl,fun _ hS => by kernel_rfl⟩) hHeld ?_
 try simp only [sX]
 refine wpAnyH_done (by kernel_rfl) ?_ _
 rw [← HW3.out]
 have hst3:=HST.out W3 HB3.out
 have hc3 : W3.cell? ⟨p,0,none⟩ = some (.map none):=cell_of_row _ _ 0 _ _ _ hst3.1
 have hlen:=fun wx : World => Maps.len_nil (w:=wx) undMp 3
 have heq:=eqMapNN
 have hmk:=mk_map3
 have hp3:=hst3.1
 obtain ⟨g,hg⟩ : ∃ g,g = W3.heap.size:=⟨_,rfl⟩
 obtain ⟨W4,hW4⟩ : ∃ W4,W4 = (W3.alloc (.map #[] 0)).setCell ⟨p,0,none⟩ (.map (some g)):=⟨_,rfl⟩
 have hpw : p < W3.heap.size:=(Array.getElem?_eq_some_iff.1 hp3).1
 have hpa : (W3.alloc (.map #[] 0)).heap[p]? = some (.cells #[.map none] 110):=(heapOld _ _ _ hpw).trans hp3
 have hfz : (W3.alloc (.map #[] 0)).frozen? ⟨p,0,none⟩ = false:=by simp only [World.frozen?,hpa]; simp
 have hca : (W3.alloc (.map #[] 0)).cell? ⟨p,0,none⟩ = some (.map none):=cell_of_row _ _ 0 _ _ _ hpa
 have hp4 : W4.heap[p]? = some (.cells #[.map (some g)] 110):=by
   rw [hW4]
   exact Boxed.set _ (show Boxed (W3.alloc (.map #[] 0)) p 110 (.map none) from hpa)
 have ho4 : W4.ownsMap Tryz.prog 36 heldR g 0 (.map []):=by
   have:=(World.ownsMap_made W3 Tryz.prog 36 heldR).setCell (a:=⟨p,0,none⟩) (by show W3.heap.size ≠ p; omega) (.map (some g))
   rw [hW4,hg]; rw [hg] at this; exact this
 have hk34 : KeepP p none W3 W4:=by rw [hW4]; exact (KeepP.of_below ((Below.refl _ _).alloc (Nat.le_refl _) _)).then_cell _
 have hs34:=hk34.size
 have HO3:=Lib.hid ho4
 have HP3:=Lib.hid hp4
 have HW4:=Lib.hid hW4
 have HG:=Lib.hid hg
 have HPW:=Lib.hid hpw
 have HK34:=Lib.hid hk34
 have hpg : p ≠ g:=by omega
 have HPG:=Lib.hid hpg
 have hrg3 : ∀ wx,KeepP p (some g) W4 wx → wx.rangeAt b 0 [.int .i64 ra,.int .i64 rn,.int .i64 ca,.int .i64 cn]:=fun wx hx => ad_range ((hx.block b (by have:=HB3.out.size; have:=HZ.out; omega) (by have:=HPL.out; omega) (fun e => by have:=Option.some.inj e; have:=HB3.out.size; have:=HZ.out; omega)).trans ((hk34.block b (by have:=HB3.out.size; have:=HZ.out; omega) (by have:=HPL.out; omega) (by simp)).trans (HKB.out W3 HB3.out)))
 have hka3 : ∀ wx,KeepP p (some g) W4 wx → wx.rangeAt (b + 1) 0 CA.toList:=fun wx hx => row_range_ ((hx.block (b + 1) (by have:=HB3.out.size; have:=HZ.out; omega) (by have:=HPL.out; omega) (fun e => by have:=Option.some.inj e; have:=HB3.out.size; have:=HZ.out; omega)).trans ((hk34.block (b + 1) (by have:=HB3.out.size; have:=HZ.out; omega) (by have:=HPL.out; omega) (by simp)).trans (HKA.out W3 HB3.out))) _ _ (fun j v hv => by rw [Nat.zero_add]; simpa using hv)
 have HRG3:=Lib.hid hrg3
 have HKA3:=Lib.hid hka3
 have HKW:=Lib.hid (fun (wx : World) (h : KeepP p (some g) W4 wx) => KeepP.from_none (KeepP.from_below (HBEL.out.trans (HB3.out.mono HBEL.out.size)) hk34) h (by have:=(HBEL.out.trans (HB3.out.mono HBEL.out.size)).size; omega))
 clear hrg3 hka3 hst3 hp3 hg hW4 hpw hpa hp4 ho4 hk34 hs34 hpg
 go_wp2
 rw [← HG.out,← HW4.out]
 refine wp_region_held_drew (S:=fun wx => KeepP p (some g) W4 wx ∧ wx.heap[p]? = some (.cells #[.map (some g)] 110)) (by kernel_rfl) ⟨KeepP.of_below (Below.refl _ _).drew,HP3.out⟩ (fun hHeld => ?_)
 refine wpAnyH_take (i:=0) (v:=(.pointer (some ⟨p,0,none⟩))) rfl (by kernel_rfl) (by kernel_rfl) (by kernel_rfl) (fun _ _ _ h => h) (Or.inl ⟨by kernel_rfl,fun _ hS => by kernel_rfl⟩) hHeld ?_
 try simp only [sX]
 refine wpAnyH_take (i:=1) (v:=(.pointer (some ⟨p,0,none⟩))) rfl (by kernel_rfl) (by kernel_rfl) (by kernel_rfl) (fun _ _ _ h => h) (Or.inl ⟨by kernel_rfl,fun _ hS => by kernel_rfl⟩) hHeld ?_
 try simp only [sX]
 refine wpAnyH_take (i:=2) (v:=(.pointer (some ⟨p,0,none⟩))) rfl (by kernel_rfl) (by kernel_rfl) (by kernel_rfl) (fun _ _ _ h => h) (Or.inl ⟨by kernel_rfl,fun _ hS => by kernel_rfl⟩) hHeld ?_
 try simp only [sX]
 refine wpAnyH_take (i:=3) (v:=(.map (some g))) rfl (by kernel_rfl) (by kernel_rfl) (by kernel_rfl) (fun _ _ _ h => h) (Or.inl ⟨by kernel_rfl,fun _ hS => ld_mp _ rfl ⟨p,0,none⟩ rfl _ (cell_of_row _ _ 0 _ _ _ hS.2)⟩) hHeld ?_
 try simp only [sX]
 refine wpAnyH_take (i:=4) (v:=.agg #[.int .i64 ra,.int .i64 rn,.int .i64 ca,.int .i64 cn]) rfl (by kernel_rfl) (by kernel_rfl) (by kernel_rfl) (fun _ _ _ h => h) (yieldsIf_load_mid (by kernel_rfl) 36 _ rfl b 0 rfl [.int .i64 ra,.int .i64 rn,.int .i64 ca,.int .i64 cn] _ (fun _ hS => HRG3.out _ hS.1) undCell rfl infCell) hHeld ?_
 try simp only [sX]
 refine wpAnyH_take (i:=5) (v:=.agg CA.toList.toArray) rfl (by kernel_rfl) (by kernel_rfl) (by kernel_rfl) (fun _ _ _ h => h) (yieldsIf_load_mid (by kernel_rfl) 68 _ rfl (b + 1) 0 rfl CA.toList _ (fun _ hS => HKA3.out _ hS.1) undC rfl HIL.out) hHeld ?_
 try simp only [sX]
 simp only [Array.toArray_toList]
 refine wpAnyH_ready (rs:=[6]) (by kernel_rfl) (by simp) ?_
 refine AllReadyH.cons rfl (fun K hK => ?_) AllReadyH.nil
 go_simp
 refine (HCP.out _ (HKW.out _ hHeld.1)).mono ?_
 rintro e w4 ⟨A2,c2,rfl,hsl4,hb4⟩
 have HSL4:=Lib.hid hsl4
 clear hsl4
 try go_simp
 have hH4 : KeepP p (some g) W4 w4 ∧ w4.heap[p]? = some (.cells #[.map (some g)] 110):=⟨hHeld.1.then_below hb4,(hb4.block p (Array.getElem?_eq_some_iff.1 hHeld.2).1).trans hHeld.2⟩
 have HO4:=Lib.hid (own_map_below HO3.out.drew hb4)
 have HP4:=Lib.hid hb4.size
 refine hK.out _ _ hH4 (fun hHeld4 => ?_)
 clear hK K hHeld hH4
 try simp only [sX]
 refine wpAnyH_put (i:=7) (by kernel_rfl) rfl rfl _ _ _ rfl g 0 (.map []) rfl ⟨ra,rn,ca,cn⟩ HA.out rfl y A2 c2 rfl (by unfold maxLen; omega) HO4.out (fun w' hg => ⟨hHeld4.1.then_map hg (.inl rfl),(hg.block p (Array.getElem?_eq_some_iff.1 hHeld4.2).1 (fun e => HPG.out (Option.some.inj e))).trans hHeld4.2⟩) (fun w5 ho5 hg5 hHeld5 => ?_)
 try simp only [sX]
 refine wpAnyH_done (by kernel_rfl) ?_ _
 go_wp2
 go_ret
 have hw3:=(HBEL.out.trans (HB3.out.mono HBEL.out.size)).size
 have hgw:=HG.out
 have hg4:=HO3.out.lt
 have hgl5 : g < w5.heap.size:=by have:=HP4.out; have:=hg5.size; have h3 : W4.heap.size ≤ w4.heap.size:=HP4.out; omega
 refine ⟨rfl,g,A2,c2,by omega,hgl5,⟨hHeld5.2,by rw [HDD.out]; exact ho5⟩,?_,KeepP.from_none (KeepP.from_below (HBEL.out.trans (HB3.out.mono HBEL.out.size)) HK34.out) hHeld5.1 (by omega)⟩
 refine HSL4.out.keep (fun b' _ h => ⟨by have h1 : W4.heap.size ≤ b':=h.1; omega,Nat.lt_of_lt_of_le h.2 hg5.size,by have h1 : W4.heap.size ≤ b':=h.1; omega⟩) (fun b' o' h j _ => World.cell?_of_block (a:=⟨b',o' + j,none⟩) (hg5.block b' h.2 (fun e => by have:=Option.some.inj e; have h1 : W4.heap.size ≤ b':=h.1; omega)))
end Go.Proofs.YtbkmnboicihchaaGreat
namespace Go.Proofs.YtbkmnboicihchaaGreat
set_option linter.unusedSimpArgs false
set_option linter.unusedVariables false
open Go Go.RowKit Go.Shelf Go.Maps
theorem right_cp {x : Ct} (h : x.fit) : cpC x = x:=by
 by_cases hk : x.k = 2
 · exact cpC_f hk
 · rw [cpC_p hk]
   have hr:=h.right
   unfold rightC at hr
   rw [if_neg h.full,if_neg hk] at hr
   split at hr
   · have ht : x.t = zTr:=(sameB_eq _ _).1 (by simp only [Bool.and_eq_true] at hr; exact hr.1)
     obtain ⟨k,v,t⟩:=x
     dsimp only at ht
     rw [ht]
     rfl
   · cases hr
end Go.Proofs.YtbkmnboicihchaaGreat
namespace Go.Proofs.YtbkmnboicihchaaGreat
set_option maxRecDepth 100000
set_option maxHeartbeats 4000000
open Go Go.RowKit Go.Shelf Go.Maps
theorem put_empty (w : World) (p g n : Nat) (D : DataW Value) (h : StAt w p (some g) n D) (a : Ad) (ha : a.ok) (his : a.is = true) (x : Ct) (A : Option Addr) (c : Nat) (hx1 : x.k = 0) (hr : rightC x = true) (hv : x.v.ok) (hd : x.t.d.ok) (B : Nat) (hs : SlAt w B A c x.t.l) (hB : B ≤ w.heap.size) (hsz : x.t.size ≤ 1099511627776) :
   Calls Tryz.prog 17 #[.pointer (some ⟨p,0,none⟩),a.val,contV x A c] w fun e w' => e = .returned (.int .i64 0) ∧ StAt w' p (some g) n (D.del a.key) ∧ KeepP p (some g) w w':=by
 obtain ⟨ra,rn,ca,cn⟩:=a
 obtain ⟨W0,hW0⟩ : ∃ W0,W0 = (w.alloc (.cells #[.int .i64 ra,.int .i64 rn,.int .i64 ca,.int .i64 cn] 36)).alloc (.cells (contA x A c) 68):=⟨_,rfl⟩
 have hbel : Below w.heap.size w W0:=by rw [hW0]; exact ((Below.refl _ w).alloc (Nat.le_refl _) _).alloc (by simp) _
 have hz0 : W0.heap.size = w.heap.size + 2:=by rw [hW0]; simp
 have hk0 : W0.heap[w.heap.size]? = some (.cells #[.int .i64 ra,.int .i64 rn,.int .i64 ca,.int .i64 cn] 36):=by rw [hW0]; exact (heapOld _ _ _ (by simp)).trans (heap_alloc_new _ _)
 have hk1 : W0.heap[w.heap.size + 1]? = some (.cells (contA x A c) 68):=by
   rw [hW0]
   have:=heap_alloc_new (w.alloc (.cells #[.int .i64 ra,.int .i64 rn,.int .i64 ca,.int .i64 cn] 36)) (.cells (contA x A c) 68)
   rwa [World.size_alloc] at this
 have hpl : p < w.heap.size:=(Array.getElem?_eq_some_iff.1 h.1).1
 have hgl : g < w.heap.size:=by have : w.ownsMap Tryz.prog 36 heldR g n D:=h.2; exact this.lt
 have hpg : p ≠ g:=fun e => by
   have h1:=h.1
   obtain ⟨es,clock,e1,-⟩:=h.2
   rw [e,e1] at h1; cases h1
 have HPG:=Lib.hid hpg
 clear hpg
 have hst : ∀ wx,Below W0.heap.size W0 wx → StAt wx p (some g) n D:=fun wx hx => (h.below hbel).below hx
 have hI : ∀ wx,Calls Tryz.prog 42 #[.agg #[.int .i64 ra,.int .i64 rn,.int .i64 ca,.int .i64 cn]] wx fun e w' => e = .returned (.bool true) ∧ Below wx.heap.size wx w':=fun wx => by have:=isCell_c ra rn ca cn wx; rw [show isCellB ra rn ca cn = true from his] at this; exact this
 have hR : ∀ wx,Below W0.heap.size W0 wx → Calls Tryz.prog 43 #[contV x A c] wx fun e w' => e = .returned (.bool true) ∧ Below wx.heap.size wx w':=fun wx hx => by
   have:=cright_c x wx B A c hv hd ((hs.below (hbel.mono hB)).below (hx.mono (by omega))) (by have:=hx.size; omega) hsz
   rwa [hr] at this
 have hkk : ∀ wx,Below W0.heap.size W0 wx → wx.cell? ⟨w.heap.size + 1,0,none⟩ = some (.int .i64 0):=fun wx hx => by rw [← hx1]; exact (cont_row ((hx.block (w.heap.size + 1) (by omega)).trans hk1)).1
 have hka : ∀ wx,Below W0.heap.size W0 wx → wx.heap[w.heap.size + 1]? = some (.cells (contA x A c) 68):=fun wx hx => (hx.block (w.heap.size + 1) (by omega)).trans hk1
 have hkb : ∀ wx,Below W0.heap.size W0 wx → wx.heap[w.heap.size]? = some (.cells #[.int .i64 ra,.int .i64 rn,.int .i64 ca,.int .i64 cn] 36):=fun wx hx => (hx.block w.heap.size (by omega)).trans hk0
 have hix : (Tryz.prog.info? 68).map (·.size) = some (contA x A c).size:=infC
 rw [contV] at hR
 obtain ⟨CA,hCA⟩ : ∃ C,C = contA x A c:=⟨_,rfl⟩
 obtain ⟨b,hb⟩ : ∃ b,b = w.heap.size:=⟨_,rfl⟩
 rw [show contV x A c = .agg CA by rw [hCA]]
 simp only [← hCA] at hka hR hix hW0
 have hil : (Tryz.prog.info? 68).map (·.size) = some CA.toList.length:=by rw [Array.length_toList]; exact hix
 rw [← hb] at hka hkb hkk hpl hgl hz0
 simp only [Ad.val]
 have HW0:=Lib.hid hW0
 have HST:=Lib.hid hst
 have HI:=Lib.hid hI
 have HR:=Lib.hid hR
 have HKK:=Lib.hid hkk
 have HKA:=Lib.hid hka
 have HKB:=Lib.hid hkb
 have HIX:=Lib.hid hix
 have HIL:=Lib.hid hil
 have HA:=Lib.hid ha
 have HB:=Lib.hid hb
 have HBEL:=Lib.hid hbel
 have HPL:=Lib.hid hpl
 have HGL:=Lib.hid hgl
 have HZ:=Lib.hid hz0
 clear hW0 hst hI hR hkk hka hkb hix hil ha hb hbel hk0 hk1 hCA hs hd hv hr hx1 h his hsz hpl hgl hz0 hB
 have hb00 : Below W0.heap.size W0 W0:=Below.refl _ _
 have hrgb : ∀ wx,Below W0.heap.size W0 wx → wx.rangeAt b 0 [.int .i64 ra,.int .i64 rn,.int .i64 ca,.int .i64 cn]:=fun wx hx => ad_range (HKB.out wx hx)
 have HRGB:=Lib.hid hrgb
 clear hrgb
 go_enter Tryz.func17,Tryz.ntmps17
 go_upto_region 1 with (fail)
 rw [← HW0.out,← HB.out]
 go_wp2_with (first | (refine wpList_mid rfl 36 _ rfl b 0 rfl _ _ (HRGB.out _ hb00) undCell rfl infCell ?_) | (go_at_call 42; refine (HI.out W0).mono ?_; rintro e w1 ⟨rfl,hb1⟩) | (refine wpList_row rfl 68 _ rfl (b + 1) rfl 68 CA (0,0) _ (HKA.out _ hb1) undC rfl HIX.out ?_) | (go_at_call 43; refine (HR.out _ hb1).mono ?_; rintro e w2 ⟨rfl,hbr⟩; have hb2:=hb1.trans (hbr.mono hb1.size); have hkc:=HKK.out _ hb2))
 clear hb1 hbr hb00 hkc
 have hst2:=HST.out w2 hb2
 have hc2 : w2.cell? ⟨p,0,none⟩ = some (.map (some g)):=cell_of_row _ _ 0 _ _ _ hst2.1
 have ho2 : w2.ownsMap Tryz.prog 36 heldR g n D:=hst2.2
 have HO2:=Lib.hid ho2.drew
 have HP2:=Lib.hid hst2.1
 have hrg:=HRGB.out w2 hb2
 have HRG:=Lib.hid hrg
 clear hst2 ho2 hrg
 refine wp_region_still_tail 5 (by kernel_rfl) (by kernel_rfl) ?_
 simp only [List.take_succ_cons,List.take_zero,List.drop_succ_cons,List.drop_zero]
 iterate 4 still_step
 refine still_mid rfl 36 _ rfl b 0 rfl [.int .i64 ra,.int .i64 rn,.int .i64 ca,.int .i64 cn] _ HRG.out undCell rfl infCell ?_
 (try simp only [Act.put,List.setIfInBounds_toArray,List.set_cons_zero,List.set_cons_succ])
 refine wpStill_nil ?_
 change wpList _ _ _ _ _ w2.drew
 go_wp2_with (at_delete; refine wpList_delete_own _ rfl _ _ 108 36 rfl 68 cell_law undMp heldR g n D rfl HO2.out (Ad.val ⟨ra,rn,ca,cn⟩) _ rfl (key_eq ⟨ra,rn,ca,cn⟩ HA.out) ?_; intro w3 ho3 htn)
 go_ret
 have hg3 : w2.grownBy w3 (some g):=⟨htn.grown.os,htn.grown.tape,htn.grown.output,htn.grown.size,htn.grown.block⟩
 have hp2 : p < w2.heap.size:=(Array.getElem?_eq_some_iff.1 HP2.out).1
 refine ⟨rfl,⟨(hg3.block p hp2 (fun e => HPG.out (Option.some.inj e))).trans HP2.out,ho3⟩,?_⟩
 exact KeepP.then_map (KeepP.of_below (HBEL.out.trans (hb2.mono HBEL.out.size))) hg3 (.inl rfl)
end Go.Proofs.YtbkmnboicihchaaGreat
