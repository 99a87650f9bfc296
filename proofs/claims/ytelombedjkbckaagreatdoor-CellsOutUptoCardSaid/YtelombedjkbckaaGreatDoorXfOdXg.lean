/- Put of a store of cells: a value. Put of a store of cells that has a map: any content that isn't empty. Put of a store of cells that has no map: a value. -/
import Derived.Test.YtelombedjkbckaaGreatDoorMpOaObC2D1Xe
import Derived.Test.YtelombedjkbckaaGreatDoorTw
namespace Go.Proofs.YtelombedjkbckaaGreatDoor
open Go Go.RowKit Go.Shelf Go.Maps
theorem KeepP.refl (p : Nat) (m : Option Nat) (w : World) : KeepP p m w w:=⟨rfl,rfl,rfl,Nat.le_refl _,fun _ _ _ _ => rfl⟩
theorem KeepP.then_below {p : Nat} {m : Option Nat} {w w' w'' : World} (h : KeepP p m w w') (hb : Below w'.heap.size w' w'') : KeepP p m w w'' :=
 ⟨hb.os.trans h.os,hb.tape.trans h.tape,hb.output.trans h.output,Nat.le_trans h.size hb.size,fun k hk h1 h2 => (hb.block k (Nat.lt_of_lt_of_le hk h.size)).trans (h.block k hk h1 h2)⟩
theorem KeepP.then_cell {p : Nat} {m : Option Nat} {w w' : World} (h : KeepP p m w w') (v : Value) : KeepP p m w (w'.setCell ⟨p,0,none⟩ v):=by
 have hb:=(Below.refl 0 w').setCell (p:=⟨p,0,none⟩) (Nat.zero_le _) v
 exact ⟨hb.os.trans h.os,hb.tape.trans h.tape,hb.output.trans h.output,Nat.le_trans h.size hb.size,fun k hk h1 h2 => (Below.heap_setCell w' _ v k (fun e => h1 e)).trans (h.block k hk h1 h2)⟩
theorem KeepP.then_map {p : Nat} {m : Option Nat} {w w' w'' : World} (h : KeepP p m w w') {g : Nat} (hg : w'.grownBy w'' (some g)) (hm : m = some g ∨ w.heap.size ≤ g) : KeepP p m w w'' :=
 ⟨hg.os.trans h.os,hg.tape.trans h.tape,hg.output.trans h.output,Nat.le_trans h.size hg.size,fun k hk h1 h2 => (hg.block k (Nat.lt_of_lt_of_le hk h.size) (fun e => by
  have e:=Option.some.inj e
  subst e
  rcases hm with hm | hm
  · exact h2 hm
  · omega)).trans (h.block k hk h1 h2)⟩
theorem KeepP.from_below {p : Nat} {m : Option Nat} {w w' w'' : World} (hb : Below w.heap.size w w') (h : KeepP p m w' w'') : KeepP p m w w'' :=
 ⟨h.os.trans hb.os,h.tape.trans hb.tape,h.output.trans hb.output,Nat.le_trans hb.size h.size,fun k hk h1 h2 => (h.block k (Nat.lt_of_lt_of_le hk hb.size) h1 h2).trans (hb.block k hk)⟩
theorem own_map_below {w w' : World} {g n : Nat} {D : DataW Value} (h : w.ownsMap Tryz.prog 30 heldR g n D) (hb : Below w.heap.size w w') : w'.ownsMap Tryz.prog 30 heldR g n D:=by
 obtain ⟨es,clock,e1,e2⟩:=h
 exact ⟨es,clock,(hb.block g (Jg e1).1).trans e1,e2⟩
theorem eqMapN (w : World) (g : Nat) : (binOp .eql 60 (.map (some g)) (.map none)).run Tryz.prog w = .ok (.bool false) w:=by kernel_rfl
theorem eqMapNN (w : World) : (binOp .eql 60 (.map none) (.map none)).run Tryz.prog w = .ok (.bool true) w:=by kernel_rfl
section
variable {md : Region.Mode} {ops : Array Oper} {Q : Exit → Act → World → Prop} {S : World → Prop}
theorem wpAnyH_put {i : Nat} {o : Oper} {fuel : Nat} {listed : Array Bool} {a : Act} {w : World} (hr : Region.ready md ops listed = [i]) (ho : ops[i]? = some o) (hg : o.guard = none) (x y z : Operand) (hop : o.op = .mapUpdate 60 x y z)
 (g n : Nat) (D : DataW Value) (hx : a.eval x = .map (some g)) (ad : Ad) (had : ad.ok) (hy : a.eval y = ad.val) (c : Ct) (A : Option Addr) (cc : Nat) (hz : a.eval z = contV c A cc) (hn : n < maxLen) (hown : w.ownsMap Tryz.prog 30 heldR g n D)
 (hS : ∀ w',w.grownBy w' (some g) → S w') (h : ∀ w',w'.ownsMap Tryz.prog 30 heldR g (n + 1) (D.put ad.key (.held (contV c A cc))) → w.grownBy w' (some g) → S w' → wpAnyH Tryz.prog md ops Q S fuel (listed.setIfInBounds i true) (a.put o.dst undef) w') : wpAnyH Tryz.prog md ops Q S (fuel + 1) listed a w:=by
 refine wpAnyH_ready hr (by simp) (AllReadyH.cons ho (fun K hK => ?_) AllReadyH.nil)
 rw [if_pos (wanted_none hg)]
 obtain ⟨w',hrun,h1,h2⟩:=hown.update cell_law undMp hn (key_eq ad had) (heldR_cont c A cc)
 have hf:=hK.out _ _ (hS w' h2) (h w' h1 h2)
 unfold Oper.wp
 simp [execOp,hop,hx,hy,hz,hrun,Result.andThen]
 exact hf
end
end Go.Proofs.YtelombedjkbckaaGreatDoor
namespace Go.Proofs.YtelombedjkbckaaGreatDoor
set_option maxRecDepth 100000
set_option maxHeartbeats 4000000
set_option linter.unusedSimpArgs false
set_option linter.unusedVariables false
open Go Go.RowKit Go.Shelf Go.Maps
theorem NodeAt.keepP {w w' : World} {B p : Nat} {m : Option Nat} {cs : Array Value} {T : TypeId} (hp : w.heap[p]? = some (.cells cs T)) (hs : cs.size < 22) (hm : ∀ b,m = some b → ∀ x : Addr,x.block = b → w.cell? x = none) (hB : B ≤ w.heap.size) (hk : KeepP p m w w') (t : Tr) : ∀ b o,NodeAt w B b o t → NodeAt w' B b o t:=by
 induction t using Tr.ind with
 | _ d l ih =>
  intro b o h
  simp only [NodeAt] at h ⊢
  obtain ⟨hb,hd,A,c,hc,h1,h2,h3⟩:=h
  have hbp : b ≠ p:=fun e => by
   have h21:=hc 21 (by omega)
   rw [e,Lib.cell_of_heap hp] at h21
   have hn : cs[o + 21]? = none:=Array.getElem?_eq_none (by omega)
   rw [hn] at h21
   cases h21
  have hbm : m ≠ some b:=fun e => by
   have h21:=hc 21 (by omega)
   rw [hm b e _ rfl] at h21
   cases h21
  refine ⟨hb,hd,A,c,hc.keep (fun q hq => World.cell?_of_block (a:=q) (hk.block q.block (by omega) (by omega) (by rw [hq]; exact hbm))),h1,h2,?_⟩
  rcases h3 with rfl | ⟨b',o',hA,hkids⟩
  · exact .inl rfl
  · exact .inr ⟨b',o',hA,KidsAt.of (fun i hi => ih _ (List.getElem_mem hi) _ _ (hkids.get i hi))⟩
theorem SlAt.keepP {w w' : World} {B p : Nat} {m : Option Nat} {cs : Array Value} {T : TypeId} (hp : w.heap[p]? = some (.cells cs T)) (hs : cs.size < 22) (hm : ∀ b,m = some b → ∀ x : Addr,x.block = b → w.cell? x = none) (hB : B ≤ w.heap.size) (hk : KeepP p m w w') {A : Option Addr} {c : Nat} {l : List Tr} (h : SlAt w B A c l) : SlAt w' B A c l:=by
 obtain ⟨h1,h2,h3⟩:=h
 refine ⟨h1,h2,?_⟩
 rcases h3 with rfl | ⟨b',o',hA,hkids⟩
 · exact .inl rfl
 · exact .inr ⟨b',o',hA,KidsAt.of (fun i hi => NodeAt.keepP hp hs hm hB hk _ _ _ (hkids.get i hi))⟩
theorem StAt.no_cell {w : World} {p : Nat} {m : Option Nat} {n : Nat} {D : DataW Value} (h : StAt w p m n D) : ∀ b,m = some b → ∀ x : Addr,x.block = b → w.cell? x = none:=by
 intro b e x hx
 subst e
 obtain ⟨es,clock,e1,-⟩:=h.2
 subst hx
 unfold World.cell?
 rw [e1]
theorem put_someC (w : World) (p g n : Nat) (D : DataW Value) (h : StAt w p (some g) n D) (hn : n < 1000000) (a : Ad) (ha : a.ok) (his : a.is = true) (x : Ct) (A : Option Addr) (c : Nat) (hx1 : x.k ≠ 0) (hr : rightC x = true) (hv : x.v.ok) (hd : x.t.d.ok) (B : Nat) (hs : SlAt w B A c x.t.l) (hB : B ≤ w.heap.size) (hsz : x.t.size ≤ 1048576) (ok : Bool) (hok : Maps.has D a.key = ok) (hroom : ok = true ∨ Maps.size D < 10000) :
 Calls Tryz.prog 13 #[.pointer (some ⟨p,0,none⟩),a.val,contV x A c] w fun e w' => e = .returned (.int .i64 0) ∧ ∃ A2 c2,StAt w' p (some g) (n + 1) (D.put a.key (.held (contV (cpC x) A2 c2))) ∧ SlG w' (fun b _ => w.heap.size ≤ b ∧ b < w'.heap.size) A2 c2 (cpC x).t.l ∧ KeepP p (some g) w w':=by
 obtain ⟨ra,rn,ca,cn⟩:=a
 obtain ⟨W0,hW0⟩ : ∃ W0,W0 = (w.alloc (.cells #[.int .i64 ra,.int .i64 rn,.int .i64 ca,.int .i64 cn] 30)).alloc (.cells (contA x A c) 43):=⟨_,rfl⟩
 have hbel : Below w.heap.size w W0:=by rw [hW0]; exact ((Below.refl _ w).alloc (Nat.le_refl _) _).alloc (by simp) _
 have hz0 : W0.heap.size = w.heap.size + 2:=by rw [hW0]; simp
 have hk0 : W0.heap[w.heap.size]? = some (.cells #[.int .i64 ra,.int .i64 rn,.int .i64 ca,.int .i64 cn] 30):=by rw [hW0]; exact (heapOld _ _ _ (by simp)).trans (heap_alloc_new _ _)
 have hk1 : W0.heap[w.heap.size + 1]? = some (.cells (contA x A c) 43):=by
  rw [hW0]
  have:=heap_alloc_new (w.alloc (.cells #[.int .i64 ra,.int .i64 rn,.int .i64 ca,.int .i64 cn] 30)) (.cells (contA x A c) 43)
  rwa [World.size_alloc] at this
 have hpl : p < w.heap.size:=(Jg h.1).1
 have hgl : g < w.heap.size:=by have : w.ownsMap Tryz.prog 30 heldR g n D:=h.2; exact this.lt
 have hpg : p ≠ g:=fun e => by
  have h1:=h.1
  obtain ⟨es,clock,e1,-⟩:=h.2
  rw [e,e1] at h1; cases h1
 have HPG:=Jh hpg
 clear hpg
 have hst : ∀ wx,Below W0.heap.size W0 wx → StAt wx p (some g) n D:=fun wx hx => (h.below hbel).below hx
 have hI : ∀ wx,Calls Tryz.prog 32 #[.agg #[.int .i64 ra,.int .i64 rn,.int .i64 ca,.int .i64 cn]] wx fun e w' => e = .returned (.bool true) ∧ Below wx.heap.size wx w':=fun wx => by have:=isCell_c ra rn ca cn wx; rw [show isCellB ra rn ca cn = true from his] at this; exact this
 have hR : ∀ wx,Below W0.heap.size W0 wx → Calls Tryz.prog 24 #[contV x A c] wx fun e w' => e = .returned (.bool true) ∧ Below wx.heap.size wx w':=fun wx hx => by
  have:=cright_c x wx B A c hv hd ((hs.below (hbel.mono hB)).below (hx.mono (by omega))) (by have:=hx.size; omega) (by omega)
  rwa [hr] at this
 have hcp:=fun (wx : World) (hx : KeepP p (some g) w wx) => copied_any x wx A c hd ((SlAt.keepP h.1 (show (1 : Nat) < 22 by decide) h.no_cell hB hx hs).more (Nat.le_trans hB hx.size)) hsz
 obtain ⟨kx,hkx⟩ : ∃ kx,kx = x.k:=⟨_,rfl⟩
 have hq0 : ¬ kx = 0:=by rw [hkx]; exact hx1
 have hkk : ∀ wx,Below W0.heap.size W0 wx → wx.cell? ⟨w.heap.size + 1,0,none⟩ = some (.int .i64 kx):=fun wx hx => by rw [hkx]; exact (cont_row ((hx.block (w.heap.size + 1) (by omega)).trans hk1)).1
 have hka : ∀ wx,Below W0.heap.size W0 wx → wx.heap[w.heap.size + 1]? = some (.cells (contA x A c) 43):=fun wx hx => (hx.block (w.heap.size + 1) (by omega)).trans hk1
 have hkb : ∀ wx,Below W0.heap.size W0 wx → wx.heap[w.heap.size]? = some (.cells #[.int .i64 ra,.int .i64 rn,.int .i64 ca,.int .i64 cn] 30):=fun wx hx => (hx.block w.heap.size (by omega)).trans hk0
 have hix : (Tryz.prog.info? 43).map (·.size) = some (contA x A c).size:=infC
 obtain ⟨y,hy⟩ : ∃ y,y = cpC x:=⟨_,rfl⟩
 rw [contV] at hR
 simp only [contV] at hcp
 rw [← hy] at hcp ⊢
 obtain ⟨CA,hCA⟩ : ∃ C,C = contA x A c:=⟨_,rfl⟩
 obtain ⟨b,hb⟩ : ∃ b,b = w.heap.size:=⟨_,rfl⟩
 rw [show contV x A c = .agg CA by rw [hCA]]
 simp only [← hCA] at hka hR hcp hix hW0
 have hil : (Tryz.prog.info? 43).map (·.size) = some CA.toList.length:=by rw [Array.length_toList]; exact hix
 rw [← hb] at hka hkb hkk hpl hgl hz0
 simp only [Ad.val]
 obtain ⟨sz,hsz0⟩ : ∃ sz,sz = Maps.size D:=⟨_,rfl⟩
 rw [← hsz0] at hroom
 have HW0:=Jh hW0
 have HST:=Jh hst
 have HI:=Jh hI
 have HR:=Jh hR
 have HCP:=Jh hcp
 have HKK:=Jh hkk
 have HKA:=Jh hka
 have HKB:=Jh hkb
 have HIX:=Jh hix
 have HIL:=Jh hil
 have HA:=Jh ha
 have HOK:=Jh hok
 have HB:=Jh hb
 have HBEL:=Jh hbel
 have HSZ:=Jh hsz0
 have HPL:=Jh hpl
 have HGL:=Jh hgl
 have HZ:=Jh hz0
 clear hW0 hst hI hR hcp hkk hka hkb hix hil ha hok hb hbel hk0 hk1 hCA hs hd hv hr hx1 hkx h his hsz hsz0 hy hpl hgl hz0 hB
 have hb00 : Below W0.heap.size W0 W0:=Below.refl _ _
 have hrgb : ∀ wx,Below W0.heap.size W0 wx → wx.rangeAt b 0 [.int .i64 ra,.int .i64 rn,.int .i64 ca,.int .i64 cn]:=fun wx hx => ad_range (HKB.out wx hx)
 have HRGB:=Jh hrgb
 clear hrgb
 go_enter Tryz.func13,Tryz.ntmps13
 go_upto_region 1 with (fail)
 rw [← HW0.out,← HB.out]
 go_wp2_with (first | (refine wpList_mid rfl 30 _ rfl b 0 rfl _ _ (HRGB.out _ hb00) undCell rfl infCell ?_) | (go_at_call 32; refine (HI.out W0).mono ?_; rintro e w1 ⟨rfl,hb1⟩) | (refine wpList_row rfl 43 _ rfl (b + 1) rfl 43 CA (0,0) _ (HKA.out _ hb1) undC rfl HIX.out ?_) | (go_at_call 24; refine (HR.out _ hb1).mono ?_; rintro e w2 ⟨rfl,hbr⟩; have hb2:=hb1.trans (hbr.mono hb1.size); have hkc:=HKK.out _ hb2))
 clear hb1 hbr hb00 hkc
 obtain ⟨cs,hl0,hcs,hcz,hco⟩:=look_st (HST.out w2 hb2) ⟨ra,rn,ca,cn⟩ HA.out
 have hl : ∀ wx,Below w2.heap.size w2 wx → (Instr.lookup 60 (.map (some g)) (.agg #[.int .i64 ra,.int .i64 rn,.int .i64 ca,.int .i64 cn]) true).run Tryz.prog wx = .ok (.tuple #[.agg cs,.bool ok]) wx:=fun wx hx => by
  obtain ⟨cs',hl',hv',-⟩:=look_st (HST.out wx (hb2.trans (hx.mono hb2.size))) ⟨ra,rn,ca,cn⟩ HA.out
  rw [hcs] at hv'
  obtain rfl : cs = cs':=by injection hv' with hv'; injection hv'
  rw [HOK.out] at hl'
  exact hl'
 have hcw : ∀ wx,Below w2.heap.size w2 wx → wx.cell? ⟨p,0,none⟩ = some (.map (some g)):=fun wx hx => cell_of_row _ _ 0 _ _ _ (HST.out wx (hb2.trans (hx.mono hb2.size))).1
 have hrg : ∀ wx,Below w2.heap.size w2 wx → wx.rangeAt b 0 [.int .i64 ra,.int .i64 rn,.int .i64 ca,.int .i64 cn]:=fun wx hx => HRGB.out wx (hb2.trans (hx.mono hb2.size))
 have hs1 : Below w2.heap.size w2 (w2.drew.alloc (.cells (contA zCt none 0) 43)):=(Below.refl _ _).drew.alloc (Nat.le_refl _) _
 have hs2 : Below w2.heap.size w2 (w2.drew.alloc (.cells cs 43)):=(Below.refl _ _).drew.alloc (Nat.le_refl _) _
 have hixc : (Tryz.prog.info? 43).map (·.size) = some cs.size:=by rw [hcz]; exact infC
 have hzc : (contA zCt none 0).size = cs.size:=by rw [hcz]; rfl
 obtain ⟨q,hq⟩ : ∃ q,w2.drew.heap.size = q:=⟨_,rfl⟩
 obtain ⟨W3,hW3⟩ : ∃ W3,W3 = w2.drew.alloc (.cells cs 43):=⟨_,rfl⟩
 have hb3 : Below W0.heap.size W0 W3:=by rw [hW3]; exact hb2.trans (hs2.mono hb2.size)
 have HL:=Jh hl
 have HCP0:=Jh hcw
 have HRG:=Jh hrg
 have HS1:=Jh hs1
 have HS2:=Jh hs2
 have HIXC:=Jh hixc
 have HZX:=Jh hzc
 have HOX:=Jh hco
 have HZ0:=Jh hq
 have HW3:=Jh hW3
 have HB3:=Jh hb3
 clear hl hcw hrg hs1 hs2 hixc hzc hco hq hW3 hb3 hl0 hcs hcz
 refine wp_region_held_drew (S:=fun wx => Below w2.heap.size w2 wx) (by kernel_rfl) (Below.refl _ _).drew (fun hHeld => ?_)
 refine tkH (i:=0) (v:=(.pointer (some ⟨p,0,none⟩))) rfl hHeld ?_
 try simp only [sX]
 refine tkH (i:=1) (v:=(.pointer (some ⟨p,0,none⟩))) rfl hHeld ?_
 try simp only [sX]
 refine tkH (i:=2) (v:=(.pointer (some ⟨p,0,none⟩))) rfl hHeld ?_
 try simp only [sX]
 refine tkG (i:=3) (v:=(.map (some g))) rfl (Or.inl ⟨by kernel_rfl,fun _ hS => ld_mp _ rfl ⟨p,0,none⟩ rfl _ (HCP0.out _ hS)⟩) hHeld ?_
 try simp only [sX]
 refine tkG (i:=4) (v:=.agg #[.int .i64 ra,.int .i64 rn,.int .i64 ca,.int .i64 cn]) rfl (yieldsIf_load_mid (by kernel_rfl) 30 _ rfl b 0 rfl [.int .i64 ra,.int .i64 rn,.int .i64 ca,.int .i64 cn] _ (fun _ hS => HRG.out _ hS) undCell rfl infCell) hHeld ?_
 try simp only [sX]
 refine tkG (i:=5) (v:=(.tuple #[.agg cs,.bool ok])) rfl (Or.inl ⟨by kernel_rfl,fun _ hS => lk_run (mv:=.map (some g)) (kv:=.agg #[.int .i64 ra,.int .i64 rn,.int .i64 ca,.int .i64 cn]) _ _ rfl rfl rfl (HL.out _ hS)⟩) hHeld ?_
 try simp only [sX]
 refine tkH (i:=6) (v:=(.tuple #[.agg cs,.bool ok])) rfl hHeld ?_
 try simp only [sX]
 refine tkH (i:=7) (v:=(.agg cs)) rfl hHeld ?_
 try simp only [sX]
 refine tkH (i:=8) (v:=(.bool ok)) rfl hHeld ?_
 try simp only [sX]
 refine wpAnyH_contVar (i:=9) (by kernel_rfl) rfl rfl rfl q HZ0.out (HS1.out) (fun hHeld => ?_)
 try simp only [sX]
 refine wpAnyH_storeFresh (i:=10) (by kernel_rfl) rfl rfl 43 _ _ rfl q HZ0.out cs rfl rfl HIXC.out HZX.out HOX.out HS2.out (fun hHeld => ?_)
 try simp only [sX]
 refine tkH (i:=11) (v:=(.bool ok)) rfl hHeld ?_
 try simp only [sX]
 refine wpAnyH_done (by kernel_rfl) ?_ _
 rw [← HW3.out]
 have hst3:=HST.out W3 HB3.out
 have hc3 : W3.cell? ⟨p,0,none⟩ = some (.map (some g)):=cell_of_row _ _ 0 _ _ _ hst3.1
 have ho3 : W3.ownsMap Tryz.prog 30 heldR g n D:=hst3.2
 have hlen:=ho3.len undMp 3
 rw [← HSZ.out] at hlen
 have heq:=eqMapN
 have HO3:=Jh ho3
 have HP3:=Jh hst3.1
 clear hst3 ho3
 have hrg3 : ∀ wx,KeepP p (some g) W3 wx → wx.rangeAt b 0 [.int .i64 ra,.int .i64 rn,.int .i64 ca,.int .i64 cn]:=fun wx hx => ad_range ((hx.block b (by have:=HB3.out.size; have:=HZ.out; omega) (by have:=HPL.out; omega) (fun e => by have:=Option.some.inj e; have:=HGL.out; omega)).trans (HKB.out W3 HB3.out))
 have hka3 : ∀ wx,KeepP p (some g) W3 wx → wx.rangeAt (b + 1) 0 CA.toList:=fun wx hx => row_range_ ((hx.block (b + 1) (by have:=HB3.out.size; have:=HZ.out; omega) (by have:=HPL.out; omega) (fun e => by have:=Option.some.inj e; have:=HGL.out; omega)).trans (HKA.out W3 HB3.out)) _ _ (fun j v hv => by rw [Nat.zero_add]; simpa using hv)
 have HRG3:=Jh hrg3
 have HKA3:=Jh hka3
 clear hrg3 hka3
 have HKW:=Jh (fun (wx : World) (h : KeepP p (some g) W3 wx) => KeepP.from_below (HBEL.out.trans (HB3.out.mono HBEL.out.size)) h)
 have hroom' : ok = true ∨ ¬ ((10000 : Int) ≤ (sz : Int)):=hroom.imp id (fun h => by omega)
 clear hroom
 cases ok
 case false =>
  have hr10 : decide ((10000 : Int) ≤ (sz : Int)) = false:=by
   rcases hroom' with h | h
   · cases h
   · simpa using h
  clear hroom'
  go_wp2
  refine wp_region_held_drew (S:=fun wx => KeepP p (some g) W3 wx ∧ wx.heap[p]? = some (.cells #[.map (some g)] 62)) (by kernel_rfl) ⟨KeepP.of_below (Below.refl _ _).drew,HP3.out⟩ (fun hHeld => ?_)
  refine tkH (i:=0) (v:=(.pointer (some ⟨p,0,none⟩))) rfl hHeld ?_
  try simp only [sX]
  refine tkH (i:=1) (v:=(.pointer (some ⟨p,0,none⟩))) rfl hHeld ?_
  try simp only [sX]
  refine tkH (i:=2) (v:=(.pointer (some ⟨p,0,none⟩))) rfl hHeld ?_
  try simp only [sX]
  refine tkG (i:=3) (v:=(.map (some g))) rfl (Or.inl ⟨by kernel_rfl,fun _ hS => ld_mp _ rfl ⟨p,0,none⟩ rfl _ (cell_of_row _ _ 0 _ _ _ hS.2)⟩) hHeld ?_
  try simp only [sX]
  refine tkG (i:=4) (v:=.agg #[.int .i64 ra,.int .i64 rn,.int .i64 ca,.int .i64 cn]) rfl (yieldsIf_load_mid (by kernel_rfl) 30 _ rfl b 0 rfl [.int .i64 ra,.int .i64 rn,.int .i64 ca,.int .i64 cn] _ (fun _ hS => HRG3.out _ hS.1) undCell rfl infCell) hHeld ?_
  try simp only [sX]
  refine tkG (i:=5) (v:=.agg CA.toList.toArray) rfl (yieldsIf_load_mid (by kernel_rfl) 43 _ rfl (b + 1) 0 rfl CA.toList _ (fun _ hS => HKA3.out _ hS.1) undC rfl HIL.out) hHeld ?_
  try simp only [sX]
  simp only [Array.toArray_toList]
  refine wpAnyH_ready (rs:=[6]) (by kernel_rfl) (by simp) ?_
  refine AllReadyH.cons rfl (fun K hK => ?_) AllReadyH.nil
  go_simp
  refine (HCP.out _ (HKW.out _ hHeld.1)).mono ?_
  rintro e w4 ⟨A2,c2,rfl,hsl4,hb4⟩
  have HSL4:=Jh hsl4
  clear hsl4
  try go_simp
  have hH4 : KeepP p (some g) W3 w4 ∧ w4.heap[p]? = some (.cells #[.map (some g)] 62):=⟨hHeld.1.then_below hb4,(hb4.block p (Jg hHeld.2).1).trans hHeld.2⟩
  have HO4:=Jh (own_map_below HO3.out.drew hb4)
  have HP4:=Jh hb4.size
  refine hK.out _ _ hH4 (fun hHeld4 => ?_)
  clear hK K hHeld hH4
  try simp only [sX]
  refine wpAnyH_put (i:=7) (by kernel_rfl) rfl rfl _ _ _ rfl g n D rfl ⟨ra,rn,ca,cn⟩ HA.out rfl y A2 c2 rfl (by unfold maxLen; omega) HO4.out (fun w' hg => ⟨hHeld4.1.then_map hg (.inl rfl),(hg.block p (Jg hHeld4.2).1 (fun e => HPG.out (Option.some.inj e))).trans hHeld4.2⟩) (fun w5 ho5 hg5 hHeld5 => ?_)
  try simp only [sX]
  refine wpAnyH_done (by kernel_rfl) ?_ _
  go_wp2
  go_ret
  refine ⟨rfl,A2,c2,⟨hHeld5.2,ho5⟩,?_,KeepP.from_below (HBEL.out.trans (HB3.out.mono HBEL.out.size)) hHeld5.1⟩
  have hw3:=(HBEL.out.trans (HB3.out.mono HBEL.out.size)).size
  have hgl:=HGL.out
  have hbe:=HB.out
  refine HSL4.out.keep (fun b' _ h => ⟨by have h1 : W3.heap.size ≤ b':=h.1; omega,Nat.lt_of_lt_of_le h.2 hg5.size⟩) (fun b' o' h j _ => World.cell?_of_block (a:=⟨b',o' + j,none⟩) (hg5.block b' h.2 (fun e => by have:=Option.some.inj e; have h1 : W3.heap.size ≤ b':=h.1; omega)))
 case true =>
  clear hlen hroom'
  go_wp2
  refine wp_region_held_drew (S:=fun wx => KeepP p (some g) W3 wx ∧ wx.heap[p]? = some (.cells #[.map (some g)] 62)) (by kernel_rfl) ⟨KeepP.of_below (Below.refl _ _).drew,HP3.out⟩ (fun hHeld => ?_)
  refine tkH (i:=0) (v:=(.pointer (some ⟨p,0,none⟩))) rfl hHeld ?_
  try simp only [sX]
  refine tkH (i:=1) (v:=(.pointer (some ⟨p,0,none⟩))) rfl hHeld ?_
  try simp only [sX]
  refine tkH (i:=2) (v:=(.pointer (some ⟨p,0,none⟩))) rfl hHeld ?_
  try simp only [sX]
  refine tkG (i:=3) (v:=(.map (some g))) rfl (Or.inl ⟨by kernel_rfl,fun _ hS => ld_mp _ rfl ⟨p,0,none⟩ rfl _ (cell_of_row _ _ 0 _ _ _ hS.2)⟩) hHeld ?_
  try simp only [sX]
  refine tkG (i:=4) (v:=.agg #[.int .i64 ra,.int .i64 rn,.int .i64 ca,.int .i64 cn]) rfl (yieldsIf_load_mid (by kernel_rfl) 30 _ rfl b 0 rfl [.int .i64 ra,.int .i64 rn,.int .i64 ca,.int .i64 cn] _ (fun _ hS => HRG3.out _ hS.1) undCell rfl infCell) hHeld ?_
  try simp only [sX]
  refine tkG (i:=5) (v:=.agg CA.toList.toArray) rfl (yieldsIf_load_mid (by kernel_rfl) 43 _ rfl (b + 1) 0 rfl CA.toList _ (fun _ hS => HKA3.out _ hS.1) undC rfl HIL.out) hHeld ?_
  try simp only [sX]
  simp only [Array.toArray_toList]
  refine wpAnyH_ready (rs:=[6]) (by kernel_rfl) (by simp) ?_
  refine AllReadyH.cons rfl (fun K hK => ?_) AllReadyH.nil
  go_simp
  refine (HCP.out _ (HKW.out _ hHeld.1)).mono ?_
  rintro e w4 ⟨A2,c2,rfl,hsl4,hb4⟩
  have HSL4:=Jh hsl4
  clear hsl4
  try go_simp
  have hH4 : KeepP p (some g) W3 w4 ∧ w4.heap[p]? = some (.cells #[.map (some g)] 62):=⟨hHeld.1.then_below hb4,(hb4.block p (Jg hHeld.2).1).trans hHeld.2⟩
  have HO4:=Jh (own_map_below HO3.out.drew hb4)
  have HP4:=Jh hb4.size
  refine hK.out _ _ hH4 (fun hHeld4 => ?_)
  clear hK K hHeld hH4
  try simp only [sX]
  refine wpAnyH_put (i:=7) (by kernel_rfl) rfl rfl _ _ _ rfl g n D rfl ⟨ra,rn,ca,cn⟩ HA.out rfl y A2 c2 rfl (by unfold maxLen; omega) HO4.out (fun w' hg => ⟨hHeld4.1.then_map hg (.inl rfl),(hg.block p (Jg hHeld4.2).1 (fun e => HPG.out (Option.some.inj e))).trans hHeld4.2⟩) (fun w5 ho5 hg5 hHeld5 => ?_)
  try simp only [sX]
  refine wpAnyH_done (by kernel_rfl) ?_ _
  go_wp2
  go_ret
  refine ⟨rfl,A2,c2,⟨hHeld5.2,ho5⟩,?_,KeepP.from_below (HBEL.out.trans (HB3.out.mono HBEL.out.size)) hHeld5.1⟩
  have hw3:=(HBEL.out.trans (HB3.out.mono HBEL.out.size)).size
  have hgl:=HGL.out
  have hbe:=HB.out
  refine HSL4.out.keep (fun b' _ h => ⟨by have h1 : W3.heap.size ≤ b':=h.1; omega,Nat.lt_of_lt_of_le h.2 hg5.size⟩) (fun b' o' h j _ => World.cell?_of_block (a:=⟨b',o' + j,none⟩) (hg5.block b' h.2 (fun e => by have:=Option.some.inj e; have h1 : W3.heap.size ≤ b':=h.1; omega)))
end Go.Proofs.YtelombedjkbckaaGreatDoor
namespace Go.Proofs.YtelombedjkbckaaGreatDoor
set_option maxRecDepth 100000
set_option maxHeartbeats 4000000
open Go Go.RowKit Go.Shelf Go.Maps
theorem KeepP.from_none {p q : Nat} {w w' w'' : World} (h : KeepP p none w w') (h' : KeepP p (some q) w' w'') (hq : w.heap.size ≤ q) : KeepP p none w w'' :=
 ⟨h'.os.trans h.os,h'.tape.trans h.tape,h'.output.trans h.output,Nat.le_trans h.size h'.size,fun k hk h1 _ => (h'.block k (Nat.lt_of_lt_of_le hk h.size) h1 (fun e => by have:=Option.some.inj e; omega)).trans (h.block k hk h1 (by simp))⟩
theorem mk_map3 (w : World) : (Instr.makeMap 60 none).run Tryz.prog w = .ok (.map (some w.heap.size)) (w.alloc (.map #[] 0)):=by kernel_rfl
theorem put_none (w : World) (p : Nat) (n : Nat) (D : DataW Value) (h : StAt w p none n D) (a : Ad) (ha : a.ok) (his : a.is = true) (x : Ct) (A : Option Addr) (c : Nat) (hx1 : x.k = 1) (hr : rightC x = true) (hv : x.v.ok) (hd : x.t.d.ok) (B : Nat) (hs : SlAt w B A c x.t.l) (hB : B ≤ w.heap.size) (hsz : x.t.size ≤ 1099511627776) :
 Calls Tryz.prog 13 #[.pointer (some ⟨p,0,none⟩),a.val,contV x A c] w fun e w' => e = .returned (.int .i64 0) ∧ ∃ g,w.heap.size ≤ g ∧ StAt w' p (some g) 1 (D.put a.key (.held (contV (plainC x) none 0))) ∧ KeepP p none w w':=by
 obtain ⟨ra,rn,ca,cn⟩:=a
 obtain ⟨W0,hW0⟩ : ∃ W0,W0 = (w.alloc (.cells #[.int .i64 ra,.int .i64 rn,.int .i64 ca,.int .i64 cn] 30)).alloc (.cells (contA x A c) 43):=⟨_,rfl⟩
 have hbel : Below w.heap.size w W0:=by rw [hW0]; exact ((Below.refl _ w).alloc (Nat.le_refl _) _).alloc (by simp) _
 have hz0 : W0.heap.size = w.heap.size + 2:=by rw [hW0]; simp
 have hk0 : W0.heap[w.heap.size]? = some (.cells #[.int .i64 ra,.int .i64 rn,.int .i64 ca,.int .i64 cn] 30):=by rw [hW0]; exact (heapOld _ _ _ (by simp)).trans (heap_alloc_new _ _)
 have hk1 : W0.heap[w.heap.size + 1]? = some (.cells (contA x A c) 43):=by
  rw [hW0]
  have:=heap_alloc_new (w.alloc (.cells #[.int .i64 ra,.int .i64 rn,.int .i64 ca,.int .i64 cn] 30)) (.cells (contA x A c) 43)
  rwa [World.size_alloc] at this
 have hpl : p < w.heap.size:=(Jg h.1).1
 have hD : D = .map []:=h.2
 have hst : ∀ wx,Below W0.heap.size W0 wx → StAt wx p none n D:=fun wx hx => (h.below hbel).below hx
 have hI : ∀ wx,Calls Tryz.prog 32 #[.agg #[.int .i64 ra,.int .i64 rn,.int .i64 ca,.int .i64 cn]] wx fun e w' => e = .returned (.bool true) ∧ Below wx.heap.size wx w':=fun wx => by have:=isCell_c ra rn ca cn wx; rw [show isCellB ra rn ca cn = true from his] at this; exact this
 have hR : ∀ wx,Below W0.heap.size W0 wx → Calls Tryz.prog 24 #[contV x A c] wx fun e w' => e = .returned (.bool true) ∧ Below wx.heap.size wx w':=fun wx hx => by
  have:=cright_c x wx B A c hv hd ((hs.below (hbel.mono hB)).below (hx.mono (by omega))) (by have:=hx.size; omega) hsz
  rwa [hr] at this
 have hcp:=fun wx => copiedP_c x wx A c (by omega)
 have hkk : ∀ wx,Below W0.heap.size W0 wx → wx.cell? ⟨w.heap.size + 1,0,none⟩ = some (.int .i64 1):=fun wx hx => by rw [← hx1]; exact (cont_row ((hx.block (w.heap.size + 1) (by omega)).trans hk1)).1
 have hka : ∀ wx,Below W0.heap.size W0 wx → wx.heap[w.heap.size + 1]? = some (.cells (contA x A c) 43):=fun wx hx => (hx.block (w.heap.size + 1) (by omega)).trans hk1
 have hkb : ∀ wx,Below W0.heap.size W0 wx → wx.heap[w.heap.size]? = some (.cells #[.int .i64 ra,.int .i64 rn,.int .i64 ca,.int .i64 cn] 30):=fun wx hx => (hx.block w.heap.size (by omega)).trans hk0
 have hix : (Tryz.prog.info? 43).map (·.size) = some (contA x A c).size:=infC
 obtain ⟨y,hy⟩ : ∃ y,y = plainC x:=⟨_,rfl⟩
 rw [contV] at hR
 simp only [contV] at hcp
 rw [← hy] at hcp ⊢
 obtain ⟨CA,hCA⟩ : ∃ C,C = contA x A c:=⟨_,rfl⟩
 obtain ⟨b,hb⟩ : ∃ b,b = w.heap.size:=⟨_,rfl⟩
 rw [show contV x A c = .agg CA by rw [hCA]]
 simp only [← hCA] at hka hR hcp hix hW0
 have hil : (Tryz.prog.info? 43).map (·.size) = some CA.toList.length:=by rw [Array.length_toList]; exact hix
 rw [← hb] at hka hkb hkk hpl hz0
 simp only [Ad.val]
 have HW0:=Jh hW0
 have HST:=Jh hst
 have HI:=Jh hI
 have HR:=Jh hR
 have HCP:=Jh hcp
 have HKK:=Jh hkk
 have HKA:=Jh hka
 have HKB:=Jh hkb
 have HIX:=Jh hix
 have HIL:=Jh hil
 have HA:=Jh ha
 have HB:=Jh hb
 have HBEL:=Jh hbel
 have HDD:=Jh hD
 have HPL:=Jh hpl
 have HZ:=Jh hz0
 clear hW0 hst hI hR hcp hkk hka hkb hix hil ha hb hbel hk0 hk1 hCA hs hd hv hr hx1 h his hsz hD hy hpl hz0 hB
 have hb00 : Below W0.heap.size W0 W0:=Below.refl _ _
 have hrgb : ∀ wx,Below W0.heap.size W0 wx → wx.rangeAt b 0 [.int .i64 ra,.int .i64 rn,.int .i64 ca,.int .i64 cn]:=fun wx hx => ad_range (HKB.out wx hx)
 have HRGB:=Jh hrgb
 clear hrgb
 go_enter Tryz.func13,Tryz.ntmps13
 go_upto_region 1 with (fail)
 rw [← HW0.out,← HB.out]
 go_wp2_with (first | (refine wpList_mid rfl 30 _ rfl b 0 rfl _ _ (HRGB.out _ hb00) undCell rfl infCell ?_) | (go_at_call 32; refine (HI.out W0).mono ?_; rintro e w1 ⟨rfl,hb1⟩) | (refine wpList_row rfl 43 _ rfl (b + 1) rfl 43 CA (0,0) _ (HKA.out _ hb1) undC rfl HIX.out ?_) | (go_at_call 24; refine (HR.out _ hb1).mono ?_; rintro e w2 ⟨rfl,hbr⟩; have hb2:=hb1.trans (hbr.mono hb1.size); have hkc:=HKK.out _ hb2))
 clear hb1 hbr hb00 hkc
 obtain ⟨cs,hl0,hcs,hcz,hco⟩:=look_st (HST.out w2 hb2) ⟨ra,rn,ca,cn⟩ HA.out
 have hl : ∀ wx,Below w2.heap.size w2 wx → (Instr.lookup 60 (.map none) (.agg #[.int .i64 ra,.int .i64 rn,.int .i64 ca,.int .i64 cn]) true).run Tryz.prog wx = .ok (.tuple #[.agg cs,.bool false]) wx:=fun wx hx => by
  obtain ⟨cs',hl',hv',-⟩:=look_st (HST.out wx (hb2.trans (hx.mono hb2.size))) ⟨ra,rn,ca,cn⟩ HA.out
  rw [hcs] at hv'
  obtain rfl : cs = cs':=by injection hv' with hv'; injection hv'
  rw [HDD.out] at hl'
  exact hl'
 have hcw : ∀ wx,Below w2.heap.size w2 wx → wx.cell? ⟨p,0,none⟩ = some (.map none):=fun wx hx => cell_of_row _ _ 0 _ _ _ (HST.out wx (hb2.trans (hx.mono hb2.size))).1
 have hrg : ∀ wx,Below w2.heap.size w2 wx → wx.rangeAt b 0 [.int .i64 ra,.int .i64 rn,.int .i64 ca,.int .i64 cn]:=fun wx hx => HRGB.out wx (hb2.trans (hx.mono hb2.size))
 have hs1 : Below w2.heap.size w2 (w2.drew.alloc (.cells (contA zCt none 0) 43)):=(Below.refl _ _).drew.alloc (Nat.le_refl _) _
 have hs2 : Below w2.heap.size w2 (w2.drew.alloc (.cells cs 43)):=(Below.refl _ _).drew.alloc (Nat.le_refl _) _
 have hixc : (Tryz.prog.info? 43).map (·.size) = some cs.size:=by rw [hcz]; exact infC
 have hzc : (contA zCt none 0).size = cs.size:=by rw [hcz]; rfl
 obtain ⟨q,hq⟩ : ∃ q,w2.drew.heap.size = q:=⟨_,rfl⟩
 obtain ⟨W3,hW3⟩ : ∃ W3,W3 = w2.drew.alloc (.cells cs 43):=⟨_,rfl⟩
 have hb3 : Below W0.heap.size W0 W3:=by rw [hW3]; exact hb2.trans (hs2.mono hb2.size)
 have HL:=Jh hl
 have HCP0:=Jh hcw
 have HRG:=Jh hrg
 have HS1:=Jh hs1
 have HS2:=Jh hs2
 have HIXC:=Jh hixc
 have HZX:=Jh hzc
 have HOX:=Jh hco
 have HZ0:=Jh hq
 have HW3:=Jh hW3
 have HB3:=Jh hb3
 clear hl hcw hrg hs1 hs2 hixc hzc hco hq hW3 hb3 hl0 hcs hcz
 refine wp_region_held_drew (S:=fun wx => Below w2.heap.size w2 wx) (by kernel_rfl) (Below.refl _ _).drew (fun hHeld => ?_)
 refine tkH (i:=0) (v:=(.pointer (some ⟨p,0,none⟩))) rfl hHeld ?_
 (try simp only [Act.put,List.getElem_toArray,List.getElem_cons_zero,List.setIfInBounds_toArray,List.set_cons_zero,List.set_cons_succ])
 refine tkH (i:=1) (v:=(.pointer (some ⟨p,0,none⟩))) rfl hHeld ?_
 try simp only [sX]
 refine tkH (i:=2) (v:=(.pointer (some ⟨p,0,none⟩))) rfl hHeld ?_
 try simp only [sX]
 refine tkG (i:=3) (v:=(.map none)) rfl (Or.inl ⟨by kernel_rfl,fun _ hS => ld_mp _ rfl ⟨p,0,none⟩ rfl _ (HCP0.out _ hS)⟩) hHeld ?_
 try simp only [sX]
 refine tkG (i:=4) (v:=.agg #[.int .i64 ra,.int .i64 rn,.int .i64 ca,.int .i64 cn]) rfl (yieldsIf_load_mid (by kernel_rfl) 30 _ rfl b 0 rfl [.int .i64 ra,.int .i64 rn,.int .i64 ca,.int .i64 cn] _ (fun _ hS => HRG.out _ hS) undCell rfl infCell) hHeld ?_
 try simp only [sX]
 refine tkG (i:=5) (v:=(.tuple #[.agg cs,.bool false])) rfl (Or.inl ⟨by kernel_rfl,fun _ hS => lk_run (mv:=.map none) (kv:=.agg #[.int .i64 ra,.int .i64 rn,.int .i64 ca,.int .i64 cn]) _ _ rfl rfl rfl (HL.out _ hS)⟩) hHeld ?_
 try simp only [sX]
 refine tkH (i:=6) (v:=(.tuple #[.agg cs,.bool false])) rfl hHeld ?_
 try simp only [sX]
 refine tkH (i:=7) (v:=(.agg cs)) rfl hHeld ?_
 try simp only [sX]
 refine tkH (i:=8) (v:=(.bool false)) rfl hHeld ?_
 try simp only [sX]
 refine wpAnyH_contVar (i:=9) (by kernel_rfl) rfl rfl rfl q HZ0.out (HS1.out) (fun hHeld => ?_)
 try simp only [sX]
 refine wpAnyH_storeFresh (i:=10) (by kernel_rfl) rfl rfl 43 _ _ rfl q HZ0.out cs rfl rfl HIXC.out HZX.out HOX.out HS2.out (fun hHeld => ?_)
 (try simp only [Act.put,List.getElem_toArray,List.getElem_cons_succ,List.getElem_cons_zero])
 refine tkH (i:=11) (v:=(.bool false)) rfl hHeld ?_
 try simp only [sX]
 refine wpAnyH_done (by kernel_rfl) ?_ _
 rw [← HW3.out]
 have hst3:=HST.out W3 HB3.out
 have hc3 : W3.cell? ⟨p,0,none⟩ = some (.map none):=cell_of_row _ _ 0 _ _ _ hst3.1
 have hlen:=fun wx : World => Maps.len_nil (w:=wx) undMp 3
 have heq:=eqMapNN
 have hmk:=mk_map3
 have hp3:=hst3.1
 obtain ⟨g,hg⟩ : ∃ g,g = W3.heap.size:=⟨_,rfl⟩
 obtain ⟨W4,hW4⟩ : ∃ W4,W4 = (W3.alloc (.map #[] 0)).setCell ⟨p,0,none⟩ (.map (some g)):=⟨_,rfl⟩
 have hpw : p < W3.heap.size:=(Jg hp3).1
 have hpa : (W3.alloc (.map #[] 0)).heap[p]? = some (.cells #[.map none] 62):=(heapOld _ _ _ hpw).trans hp3
 have hfz : (W3.alloc (.map #[] 0)).frozen? ⟨p,0,none⟩ = false:=by simp only [World.frozen?,hpa]; simp
 have hca : (W3.alloc (.map #[] 0)).cell? ⟨p,0,none⟩ = some (.map none):=cell_of_row _ _ 0 _ _ _ hpa
 have hp4 : W4.heap[p]? = some (.cells #[.map (some g)] 62):=by
  rw [hW4]
  exact Boxed.set _ (show Boxed (W3.alloc (.map #[] 0)) p 62 (.map none) from hpa)
 have ho4 : W4.ownsMap Tryz.prog 30 heldR g 0 (.map []):=by
  have:=(World.ownsMap_made W3 Tryz.prog 30 heldR).setCell (a:=⟨p,0,none⟩) (by show W3.heap.size ≠ p; omega) (.map (some g))
  rw [hW4,hg]; rw [hg] at this; exact this
 have hk34 : KeepP p none W3 W4:=by rw [hW4]; exact (KeepP.of_below ((Below.refl _ _).alloc (Nat.le_refl _) _)).then_cell _
 have hs34:=hk34.size
 have HO3:=Jh ho4
 have HP3:=Jh hp4
 have HW4:=Jh hW4
 have HG:=Jh hg
 have HPW:=Jh hpw
 have HK34:=Jh hk34
 have hpg : p ≠ g:=by omega
 have HPG:=Jh hpg
 have hrg3 : ∀ wx,KeepP p (some g) W4 wx → wx.rangeAt b 0 [.int .i64 ra,.int .i64 rn,.int .i64 ca,.int .i64 cn]:=fun wx hx => ad_range ((hx.block b (by have:=HB3.out.size; have:=HZ.out; omega) (by have:=HPL.out; omega) (fun e => by have:=Option.some.inj e; have:=HB3.out.size; have:=HZ.out; omega)).trans ((hk34.block b (by have:=HB3.out.size; have:=HZ.out; omega) (by have:=HPL.out; omega) (by simp)).trans (HKB.out W3 HB3.out)))
 have hka3 : ∀ wx,KeepP p (some g) W4 wx → wx.rangeAt (b + 1) 0 CA.toList:=fun wx hx => row_range_ ((hx.block (b + 1) (by have:=HB3.out.size; have:=HZ.out; omega) (by have:=HPL.out; omega) (fun e => by have:=Option.some.inj e; have:=HB3.out.size; have:=HZ.out; omega)).trans ((hk34.block (b + 1) (by have:=HB3.out.size; have:=HZ.out; omega) (by have:=HPL.out; omega) (by simp)).trans (HKA.out W3 HB3.out))) _ _ (fun j v hv => by rw [Nat.zero_add]; simpa using hv)
 have HRG3:=Jh hrg3
 have HKA3:=Jh hka3
 clear hrg3 hka3 hst3 hp3 hg hW4 hpw hpa hp4 ho4 hk34 hs34 hpg
 go_wp2
 rw [← HG.out,← HW4.out]
 refine wp_region_held_drew (S:=fun wx => KeepP p (some g) W4 wx ∧ wx.heap[p]? = some (.cells #[.map (some g)] 62)) (by kernel_rfl) ⟨KeepP.of_below (Below.refl _ _).drew,HP3.out⟩ (fun hHeld => ?_)
 refine tkH (i:=0) (v:=(.pointer (some ⟨p,0,none⟩))) rfl hHeld ?_
 (try simp only [Act.put,List.getElem_toArray,List.getElem_cons_zero,List.setIfInBounds_toArray,List.set_cons_zero,List.set_cons_succ])
 refine tkH (i:=1) (v:=(.pointer (some ⟨p,0,none⟩))) rfl hHeld ?_
 try simp only [sX]
 refine tkH (i:=2) (v:=(.pointer (some ⟨p,0,none⟩))) rfl hHeld ?_
 try simp only [sX]
 refine tkG (i:=3) (v:=(.map (some g))) rfl (Or.inl ⟨by kernel_rfl,fun _ hS => ld_mp _ rfl ⟨p,0,none⟩ rfl _ (cell_of_row _ _ 0 _ _ _ hS.2)⟩) hHeld ?_
 try simp only [sX]
 refine tkG (i:=4) (v:=.agg #[.int .i64 ra,.int .i64 rn,.int .i64 ca,.int .i64 cn]) rfl (yieldsIf_load_mid (by kernel_rfl) 30 _ rfl b 0 rfl [.int .i64 ra,.int .i64 rn,.int .i64 ca,.int .i64 cn] _ (fun _ hS => HRG3.out _ hS.1) undCell rfl infCell) hHeld ?_
 try simp only [sX]
 refine tkG (i:=5) (v:=.agg CA.toList.toArray) rfl (yieldsIf_load_mid (by kernel_rfl) 43 _ rfl (b + 1) 0 rfl CA.toList _ (fun _ hS => HKA3.out _ hS.1) undC rfl HIL.out) hHeld ?_
 try simp only [sX]
 simp only [Array.toArray_toList]
 refine wpAnyH_ready (rs:=[6]) (by kernel_rfl) (by simp) ?_
 refine AllReadyH.cons rfl (fun K hK => ?_) AllReadyH.nil
 go_simp
 refine (HCP.out _).mono ?_
 rintro e w4 ⟨rfl,hb4⟩
 try go_simp
 have hH4 : KeepP p (some g) W4 w4 ∧ w4.heap[p]? = some (.cells #[.map (some g)] 62):=⟨hHeld.1.then_below hb4,(hb4.block p (Jg hHeld.2).1).trans hHeld.2⟩
 have HO4:=Jh (own_map_below HO3.out.drew hb4)
 have HP4:=Jh hb4.size
 refine hK.out _ _ hH4 (fun hHeld4 => ?_)
 clear hK K hHeld hH4
 try simp only [sX]
 refine wpAnyH_put (i:=7) (by kernel_rfl) rfl rfl _ _ _ rfl g 0 (.map []) rfl ⟨ra,rn,ca,cn⟩ HA.out rfl y none 0 rfl (by unfold maxLen; omega) HO4.out (fun w' hg => ⟨hHeld4.1.then_map hg (.inl rfl),(hg.block p (Jg hHeld4.2).1 (fun e => HPG.out (Option.some.inj e))).trans hHeld4.2⟩) (fun w5 ho5 hg5 hHeld5 => ?_)
 (try simp only [Act.put,List.getElem_toArray,List.getElem_cons_succ,List.getElem_cons_zero])
 refine wpAnyH_done (by kernel_rfl) ?_ _
 go_wp2
 go_ret
 exact ⟨rfl,g,by have:=HG.out; have:=(HBEL.out.trans (HB3.out.mono HBEL.out.size)).size; omega,⟨hHeld5.2,by rw [HDD.out]; exact ho5⟩,KeepP.from_none (KeepP.from_below (HBEL.out.trans (HB3.out.mono HBEL.out.size)) HK34.out) hHeld5.1 (by have:=HG.out; have:=(HBEL.out.trans (HB3.out.mono HBEL.out.size)).size; omega)⟩
end Go.Proofs.YtelombedjkbckaaGreatDoor
