/- Clone of a store of cells. CellsPlay: where its loop stands; its calls. CellsPlay: the walk. -/
import Derived.Test.YtelombedjkbckaaGreatDoorTw
import Derived.Test.YtelombedjkbckaaGreatDoorMpOaObC2D1Xe
import Derived.Test.YtelombedjkbckaaGreatDoorOeOcXnKzOiD2E3
import Derived.Maps.RangeWalk
import Derived.RangeFuncBox
import Derived.Test.YtelombedjkbckaaGreatDoorTb0B1B2
import Derived.Test.YtelombedjkbckaaGreatDoorD3D7Xc1ShelfCaCoCp
import Derived.Test.YtelombedjkbckaaGreatDoorXhXi
import Derived.Test.YtelombedjkbckaaGreatDoorOvNoGtXmCuFeFf
namespace Go.Proofs.YtelombedjkbckaaGreatDoor
set_option maxRecDepth 100000
set_option maxHeartbeats 4000000
set_option linter.unusedSimpArgs false
set_option linter.unusedVariables false
open Go Go.RowKit Go.Shelf Go.Maps
theorem getA_keep {M : List (Ad × Ct)} (ho : InOrder M) (xs : List Ad) (k : Ad) (c : Ct) : getA (M.filter fun e => decide (e.1 ∈ xs)) k = some c ↔ (k,c) ∈ M ∧ k ∈ xs:=by
 rw [getA_mem (List.Pairwise.filter _ ho),List.mem_filter]
 simp
theorem filt_put {M : List (Ad × Ct)} (ho : InOrder M) {xs : List Ad} {a : Ad} {x : Ct} (hm : (a,x) ∈ M) : putA a x false (M.filter fun e => decide (e.1 ∈ xs)) = M.filter fun e => decide (e.1 ∈ xs ++ [a]):=by
 refine order_ext (putA_order (List.Pairwise.filter _ ho)) (List.Pairwise.filter _ ho) (fun k => ?_)
 refine Option.ext fun c => ?_
 rw [getA_putA,getA_keep ho]
 by_cases e : k = a
 · subst e
   rw [if_pos rfl]
   have h1:=(getA_mem ho).2 hm
   constructor
   · intro h; cases h; exact ⟨hm,by simp⟩
   · rintro ⟨h,-⟩
     have h2:=(getA_mem ho).2 h
     rw [h1] at h2; exact h2
 · rw [if_neg e,getA_keep ho]
   simp [e]
structure ClR (w : World) (b r nn : Nat) (D : DataW Value) (M : List (Ad × Ct)) (pc mc : Nat) (xs : List Ad) (left : Lit → Bool) (cnt n' : Nat) (Dc : DataW Value) (wr : World) : Prop where
 bel : Below w.heap.size w wr
 rg : wr.ranges Tryz.prog 30 heldR b r nn D left cnt
 met : MetK D left xs
 len : xs.length + cnt ≤ Maps.size D
 st : StAt wr pc (some mc) n' Dc
 rep : Rep wr (fun k => r < k ∧ k < wr.heap.size) Dc (M.filter fun e => decide (e.1 ∈ xs))
 nle : n' ≤ xs.length
theorem ClR.step {w : World} {b r nn : Nat} {D : DataW Value} {M : List (Ad × Ct)} {pc mc : Nat} {xs : List Ad} {left : Lit → Bool} {cnt n' cnt2 : Nat} {Dc : DataW Value} {wr w2 W3 x0 w4 w5 : World} {a : Ad} {x : Ct} {A2 : Option Addr} {c2 : Nat}
 (h : ClR w b r nn D M pc mc xs left cnt n' Dc wr) (ho : InOrder M) (hx : (a,x) ∈ M) (hok : a.ok) (hf : x.fit) {y : DataW Value} (hlk : left a.key = true) (hat : ∀ zd,D.atKey a.key zd = y)
 (hb : b < w.heap.size) (hpc : w.heap.size ≤ pc) (hmc : pc < mc) (hr : mc < r)
 (hrg2 : w2.ranges Tryz.prog 30 heldR b r nn D (fun z => left z && !z.sameKey a.key) cnt2) (hlt : cnt2 < cnt) (hg2 : wr.grownBy w2 (some r)) (hs2 : w2.heap.size = wr.heap.size) (hb3 : Below w2.heap.size w2 W3) (hx0 : Below W3.heap.size W3 x0) (hb4 : Below x0.heap.size x0 w4)
 (hs4 : SlG w4 (fun b _ => x0.heap.size ≤ b ∧ b < w4.heap.size) A2 c2 x.t.l) (hg5 : w4.grownBy w5 (some mc)) (ho5 : w5.ownsMap Tryz.prog 30 heldR mc (n' + 1) (Dc.put a.key (.held (contV x A2 c2)))) :
 ClR w b r nn D M pc mc (xs ++ [a]) (fun z => left z && !z.sameKey a.key) cnt2 (n' + 1) (Dc.put a.key (.held (contV x A2 c2))) w5:=by
 have e1:=h.bel.size
 have e2:=hb3.size
 have e3:=hx0.size
 have e4:=hb4.size
 have e5:=hg5.size
 have hpl : pc < wr.heap.size:=(Jg h.st.1).1
 have hbk : ∀ k,k < wr.heap.size → k ≠ r → k ≠ mc → w5.heap[k]? = wr.heap[k]?:=fun k h1 h2 h3 =>
  (hg5.block k (by omega) (fun e => h3 (Option.some.inj e))).trans ((hb4.block k (by omega)).trans ((hx0.block k (by omega)).trans ((hb3.block k (by omega)).trans (hg2.block k h1 (fun e => h2 (Option.some.inj e))))))
 have hrw : r < w2.heap.size:=by obtain ⟨o,ho,-⟩:=ranges_iter hrg2; exact (Jg ho).1
 have hr5 : w5.heap[r]? = w2.heap[r]?:=(hg5.block r (by omega) (fun e => by have:=Option.some.inj e; omega)).trans ((hb4.block r (by omega)).trans ((hx0.block r (by omega)).trans (hb3.block r hrw)))
 have hb5 : w5.heap[b]? = w2.heap[b]?:=(hg5.block b (by omega) (fun e => by have:=Option.some.inj e; omega)).trans ((hb4.block b (by omega)).trans ((hx0.block b (by omega)).trans (hb3.block b (by omega))))
 have hbel : Below w.heap.size wr w5:=⟨hg5.os.trans (hb4.os.trans (hx0.os.trans (hb3.os.trans hg2.os))),hg5.tape.trans (hb4.tape.trans (hx0.tape.trans (hb3.tape.trans hg2.tape))),hg5.output.trans (hb4.output.trans (hx0.output.trans (hb3.output.trans hg2.output))),by omega,fun k hk => hbk k (by omega) (by omega) (by omega)⟩
 refine ⟨h.bel.trans hbel,ranges_same hrg2 hb5 hr5,h.met.step hok hlk hat,by have:=h.len; simp; omega,⟨(hbk pc hpl (by omega) (by omega)).trans h.st.1,ho5⟩,?_,by have:=h.nle; simp; omega⟩
 rw [← filt_put ho hx]
 exact h.rep.put (fun k hk => ⟨hk.1,by omega⟩) (fun k hk => hbk k hk.2 (by omega) (by omega)) hok hf (hs4.keep (fun k _ hk => ⟨by omega,by omega⟩) (fun k o hk j _ => World.cell?_of_block (a:=⟨k,o + j,none⟩) (hg5.block k hk.2 (fun e => by have:=Option.some.inj e; omega))))
theorem mkMapC (w : World) (n : Int) : (Instr.makeMap 60 (some (.int .i64 n))).run Tryz.prog w = .ok (.map (some w.heap.size)) (w.alloc (.map #[] 0)):=by
 simp [Instr.makeMap,run_underlying undMp,go_sem]
theorem cloneM_c {w : World} {p b nn : Nat} {D : DataW Value} {M : List (Ad × Ct)} {T : Nat → Prop} (hst : StAt w p (some b) nn D) (hrep : Rep w T D M) (hT : ∀ k, T k → k < w.heap.size) (hM : M.length ≤ 1000000) :
 Calls Tryz.prog 21 #[.pointer (some ⟨p,0,none⟩)] w fun e w' => ∃ pc mc r n' Dc,e = .returned (.pointer (some ⟨pc,0,none⟩)) ∧ w.heap.size ≤ pc ∧ pc < mc ∧ mc < r ∧ StAt w' pc (some mc) n' Dc ∧ Rep w' (fun k => r < k ∧ k < w'.heap.size) Dc M ∧ n' ≤ M.length ∧ Below w.heap.size w w':=by
 have c0 : w.cell? ⟨p,0,none⟩ = some (.map (some b)):=cell_of_row _ _ 0 _ _ _ hst.1
 obtain ⟨h0,hh0⟩ : ∃ h,h = w.heap.size:=⟨_,rfl⟩
 have hpl : p < h0:=by rw [hh0]; exact (Jg hst.1).1
 have hbl : b < h0:=by rw [hh0]; obtain ⟨es,clock,e1,-⟩:=hst.2; exact (Jg e1).1
 obtain ⟨W1,hW1⟩ : ∃ W1,W1 = w.alloc (.cells #[.map none] 62):=⟨_,rfl⟩
 have hb1 : Below h0 w W1:=by rw [hW1,hh0]; exact (Below.refl _ _).alloc (Nat.le_refl _) _
 have hk1 : W1.heap[h0]? = some (.cells #[.map none] 62):=by rw [hW1,hh0]; exact heap_alloc_new _ _
 have hs1 : W1.heap.size = h0 + 1:=by rw [hW1,hh0]; simp
 have c1 : W1.cell? ⟨p,0,none⟩ = some (.map (some b)):=(World.cell?_of_block (a:=⟨p,0,none⟩) (hb1.block p hpl)).trans c0
 have c2 : W1.cell? ⟨h0,0,none⟩ = some (.map none):=cell_of_row _ _ 0 _ _ _ hk1
 have f2 : W1.frozen? ⟨h0,0,none⟩ = false:=by simp [World.frozen?,hk1]
 have how : W1.ownsMap Tryz.prog 30 heldR b nn D:=by
  obtain ⟨es,clock,e1,e2⟩:=hst.2
  exact ⟨es,clock,(hb1.block b hbl).trans e1,e2⟩
 have hne:=eqMapN w b
 have HNEW:=Jh (new_c w)
 obtain ⟨sz,hsz⟩ : ∃ s,s = Maps.size D:=⟨_,rfl⟩
 have hmk:=mkMapC W1 (Maps.size D : Nat)
 have hnm:=fun (W : World) => eqMapN W b
 have hln:=how.len undMp 3
 rw [← hsz] at hln hmk
 clear hsz
 have hk2 : (W1.alloc (.map #[] 0)).heap[h0]? = some (.cells #[.map none] 62):=(heapOld _ _ _ (by omega)).trans hk1
 have c3 : (W1.alloc (.map #[] 0)).cell? ⟨h0,0,none⟩ = some (.map none):=cell_of_row _ _ 0 _ _ _ hk2
 have f3 : (W1.alloc (.map #[] 0)).frozen? ⟨h0,0,none⟩ = false:=by simp [World.frozen?,hk2]
 obtain ⟨W2,hW2⟩ : ∃ W2,W2 = (W1.alloc (.map #[] 0)).setCell ⟨h0,0,none⟩ (.map (some W1.heap.size)):=⟨_,rfl⟩
 have hs2 : W2.heap.size = h0 + 2:=by rw [hW2]; simp; omega
 have hb2 : Below h0 w W2:=by rw [hW2]; exact (hb1.alloc (by omega) _).setCell (Nat.le_refl _) _
 have hk3 : W2.heap[h0]? = some (.cells #[.map (some (h0 + 1))] 62):=by
  rw [hW2,hs1]
  exact (show Boxed _ h0 62 (.map none) from hk2).set _
 have hkm : W2.ownsMap Tryz.prog 30 heldR (h0 + 1) 0 (.map []):=by
  have:=World.ownsMap_made W1 Tryz.prog 30 heldR
  rw [hs1] at this
  obtain ⟨es,clock,e1,e2⟩:=this
  refine ⟨es,clock,?_,e2⟩
  rw [hW2]
  exact (Below.heap_setCell _ _ _ _ (fun e => by have : h0 + 1 = h0:=e; omega)).trans e1
 have how2 : W2.ownsMap Tryz.prog 30 heldR b nn D:=by
  obtain ⟨es,clock,e1,e2⟩:=hst.2
  exact ⟨es,clock,(hb2.block b hbl).trans e1,e2⟩
 have c4 : W2.cell? ⟨p,0,none⟩ = some (.map (some b)):=(World.cell?_of_block (a:=⟨p,0,none⟩) (hb2.block p hpl)).trans c0
 have HST : Hid (StAt W2 h0 (some (h0 + 1)) 0 (.map [])):=Jh ⟨hk3,hkm⟩
 have HB2:=Jh (And.intro hb2 (And.intro hs2 (And.intro hbl hpl)))
 have HW1:=Jh hW1
 have HW2:=Jh hW2
 have HH:=Jh hh0
 have HREP:=Jh (And.intro hrep (And.intro hT hM))
 rw [← hh0]
 clear hW1 hW2 hk1 hs1 hb1 hpl hbl hst hk2 hs2 hb2 hk3 hkm hrep hT hM c2 f2 hh0
 go_enter Tryz.func21,Tryz.ntmps21
 go_upto_region 2 with (go_at_call 11; refine HNEW.out.mono ?_; rintro e w' ⟨rfl,hw⟩; rw [hw]; clear hw)
 rw [← HW1.out,← HH.out]
 go_upto_region 5 with (fail)
 (try change Code.wp _ _ _ _ ((W1.alloc (.map #[] 0)).setCell ⟨h0,0,none⟩ (.map (some W1.heap.size))))
 rw [← HW2.out]
 clear c1 c3 f3 how hmk hln hnm hne
 go_wp2_with (first | (at_range; refine wpList_range_own _ rfl _ 60 rfl 30 43 cell_law undMp _ b nn _ rfl how2 ?_; intro w0 hrg0 hg0 hs0) | go_in)
 try go_frame
 have HR0 : Hid (ClR w b W2.heap.size nn D M h0 (h0 + 1) [] (Maps.has D) (Maps.size D) 0 (.map []) w0):=Jh (by
  have e2:=HB2.out.2.1
  have hb0 : Below W2.heap.size W2 w0:=⟨hg0.os,hg0.tape,hg0.output,hg0.size,fun k hk => hg0.block k hk (by simp)⟩
  exact ⟨by rw [← HH.out]; exact HB2.out.1.trans (hb0.mono (by omega)),hrg0,MetK.start D,by simp,HST.out.below hb0,by
   rw [show (M.filter fun e => decide (e.1 ∈ ([] : List Ad))) = [] by simp]
   exact Rep.empty _ _,Nat.le_refl _⟩)
 clear hrg0 hg0 hs0 how2 c4
 obtain ⟨r,hr⟩ : ∃ r,r = W2.heap.size:=⟨_,rfl⟩
 have HRE:=Jh hr
 rw [← hr] at HR0 ⊢
 clear hr
 go_loopw [4] (fun _ wr => ∃ (xs : List Ad) (left : Lit → Bool) (cnt n' : Nat) (Dc : DataW Value),Hid (ClR w b r nn D M h0 (h0 + 1) xs left cnt n' Dc wr)) (fun _ wr => wr.rangeLeft b r)
 case atStart => exact ⟨_,_,_,_,_,HR0⟩
 case round =>
  obtain ⟨xs,left,cnt,n',Dc,hR⟩:=hrel
  have hrg:=hR.out.rg
  go_wp2_with (first | (at_next; refine wpList_next_ranges _ rfl _ rfl 30 cell_law heldR Ad.val id (fun key kl hk => by obtain ⟨x,hx,_⟩:=key_inv hk; exact ⟨x,hx⟩) (fun v _ _ => ⟨v,rfl⟩) b r nn _ _ _ rfl hrg ?_ ?_) | go_in)
  · intro hc0 hl0
    have HKL:=Jh (hR.out.met.done hl0)
    clear hrg hc0 hl0
    go_wp2
    go_ret
    have hfl : (M.filter fun e => decide (e.1 ∈ xs)) = M:=by
     refine List.filter_eq_self.2 (fun e he => ?_)
     have hk:=HREP.out.1.ok e.1 e.2 he
     have : e.1 ∈ xs:=(HKL.out.2.2 e.1 hk.1).2 (by rw [HREP.out.1.has e.1 hk.1,(getA_mem HREP.out.1.order).2 he]; rfl)
     simpa using this
    have hrep:=hR.out.rep
    rw [hfl] at hrep
    have hre:=HRE.out
    have hb2:=HB2.out.2.1
    have hln:=hR.out.len
    have hms:=HREP.out.1.size
    exact ⟨h0,h0 + 1,r,n',Dc,rfl,Nat.le_refl _,by omega,by omega,hR.out.st,hrep,by have:=hR.out.nle; omega,by have:=hR.out.bel; rwa [← HH.out] at this⟩
  · intro a0 c kl yd yp w2 cnt2 hkey hlk hv hat hrg2 hlt hg2 hsz2 hen
    obtain ⟨a,ex,hok,rfl⟩:=key_inv hkey
    obtain rfl : a0 = a:=Ad.val_inj ex
    obtain ⟨x,hxm⟩ : ∃ x,(a0,x) ∈ M:=by
     have h1:=Maps.has_true_of_atKey hat
     rw [HREP.out.1.has a0 hok] at h1
     obtain ⟨x,hx⟩:=Option.isSome_iff_exists.1 h1
     exact ⟨x,(getA_mem HREP.out.1.order).1 hx⟩
    obtain ⟨A,cc,hax,hsl⟩:=HREP.out.1.val a0 x hxm
    obtain ⟨cs,rfl,-,-,hyd⟩:=heldR_inv hv
    obtain rfl : cs = contA x A cc:=by
     have h1:=hat (.held (contV zCt none 0))
     rw [hax,hyd] at h1
     simp only [DataW.held.injEq,Value.agg.injEq] at h1
     exact h1.symm
    have hfit:=(HREP.out.1.ok a0 x hxm).2
    have hslw : SlAt w w.heap.size A cc x.t.l:=hsl.at_ (fun k _ hk => HREP.out.2.1 k hk)
    obtain ⟨ra,rn,ca,cn⟩:=a0
    obtain ⟨CA,hCA⟩ : ∃ C,C = contA x A cc:=⟨_,rfl⟩
    obtain ⟨ZC,hZC⟩ : ∃ C,C = contA zCt none 0:=⟨_,rfl⟩
    have hen' : (Instr.entry (.pointer (some ⟨r,0,none⟩))).run Tryz.prog w2 = .ok (.tuple #[.agg #[.int .i64 ra,.int .i64 rn,.int .i64 ca,.int .i64 cn],.agg CA]) w2:=by rw [hCA]; exact hen
    have hk1 : ((w2.alloc (.cells #[.int .i64 0,.int .i64 0,.int .i64 0,.int .i64 0] 30)).alloc (.cells ZC 43)).heap[w2.heap.size]? = some (.cells #[.int .i64 0,.int .i64 0,.int .i64 0,.int .i64 0] 30):=(heapOld _ _ _ (by simp)).trans (heap_alloc_new _ _)
    have hk2 : (((w2.alloc (.cells #[.int .i64 0,.int .i64 0,.int .i64 0,.int .i64 0] 30)).alloc (.cells ZC 43)).setRow w2.heap.size #[.int .i64 ra,.int .i64 rn,.int .i64 ca,.int .i64 cn]).heap[w2.heap.size + 1]? = some (.cells ZC 43):=by
     rw [setRow_other _ _ _ _ (by omega)]
     have:=heap_alloc_new (w2.alloc (.cells #[.int .i64 0,.int .i64 0,.int .i64 0,.int .i64 0] 30)) (.cells ZC 43)
     rwa [World.size_alloc] at this
    obtain ⟨W3,hW3⟩ : ∃ W3,W3 = (((w2.alloc (.cells #[.int .i64 0,.int .i64 0,.int .i64 0,.int .i64 0] 30)).alloc (.cells ZC 43)).setRow w2.heap.size #[.int .i64 ra,.int .i64 rn,.int .i64 ca,.int .i64 cn]).setRow (w2.heap.size + 1) CA:=⟨_,rfl⟩
    have hb3 : Below w2.heap.size w2 W3:=by rw [hW3]; exact below_row (below_row (((Below.refl _ _).alloc (Nat.le_refl _) _).alloc (by simp) _) (Nat.le_refl _) _) (by omega) _
    have hkc : W3.heap[w2.heap.size]? = some (.cells #[.int .i64 ra,.int .i64 rn,.int .i64 ca,.int .i64 cn] 30):=by rw [hW3,setRow_other _ _ _ _ (by omega)]; exact setRow_heap _ _ _ _ _ _ hk1
    have hkx : W3.heap[w2.heap.size + 1]? = some (.cells CA 43):=by rw [hW3]; exact setRow_heap _ _ _ _ _ _ hk2
    have hsz3 : W3.heap.size = w2.heap.size + 2:=by rw [hW3]; simp
    have hinC : (Tryz.prog.info? 43).map (·.size) = some CA.size ∧ ZC.size = CA.size ∧ CA.all (·.oneCell') = true ∧ (Tryz.prog.info? 43).map (·.size) = some CA.toList.length:=by rw [hCA,hZC]; exact ⟨infC,rfl,cont_one _ _ _,infC⟩
    have hstw:=hR.out.st
    have hh:=HH.out
    have hb2':=HB2.out.2.1
    have hre:=HRE.out
    have hbr:=hR.out.bel.size
    have hb23:=hb3.size
    have hwr : h0 + 1 < wr.heap.size:=by have:=ranges_iter hrg; obtain ⟨o,ho,-⟩:=this; have:=(Jg ho).1; omega
    have hst3 : StAt W3 h0 (some (h0 + 1)) n' Dc:=by
     have hk : ∀ k,k < wr.heap.size → k ≠ r → W3.heap[k]? = wr.heap[k]?:=fun k h1 h2 => (hb3.block k (by omega)).trans (hg2.block k h1 (fun e => h2 (Option.some.inj e)))
     refine ⟨(hk h0 (by omega) (by omega)).trans hstw.1,?_⟩
     obtain ⟨es,clock,e1,e2⟩:=hstw.2
     exact ⟨es,clock,(hk (h0 + 1) hwr (by omega)).trans e1,e2⟩
    have hsl3 : SlAt W3 W3.heap.size A cc x.t.l:=by
     have h1 : SlAt wr w.heap.size A cc x.t.l:=hslw.below hR.out.bel
     have hg2b : Below w.heap.size wr w2:=⟨hg2.os,hg2.tape,hg2.output,hg2.size,fun k hk => hg2.block k (by omega) (fun e => by have:=Option.some.inj e; omega)⟩
     exact ((h1.below hg2b).below (hb3.mono (by omega))).more (by omega)
    have hcp : ∀ wx,KeepP h0 (some (h0 + 1)) W3 wx → Calls Tryz.prog 33 #[.agg CA] wx (CopyC wx x):=fun wx hx => by
     have:=copied_any x wx A cc hfit.d ((SlAt.keepP hst3.1 (show (1 : Nat) < 22 by decide) hst3.no_cell (Nat.le_refl _) hx hsl3).more hx.size) hfit.size
     rw [right_cp hfit] at this
     rw [hCA]
     exact this
    have hkr : ∀ wx,KeepP h0 (some (h0 + 1)) W3 wx → wx.rangeAt w2.heap.size 0 [.int .i64 ra,.int .i64 rn,.int .i64 ca,.int .i64 cn] ∧ wx.rangeAt (w2.heap.size + 1) 0 CA.toList:=fun wx hx =>
     ⟨ad_range ((hx.block _ (by omega) (by omega) (fun e => by have:=Option.some.inj e; omega)).trans hkc),fun i v hv => by rw [Nat.zero_add,cell_of_row _ _ i _ _ _ ((hx.block _ (by omega) (by omega) (fun e => by have:=Option.some.inj e; omega)).trans hkx)]; simpa using hv⟩
    have hnm1 : n' < maxLen:=by unfold maxLen; have:=hR.out.nle; have:=hR.out.len; have:=HREP.out.1.size; have:=HREP.out.2.2; omega
    have HNM:=Jh hnm1
    clear hnm1
    have hstep:=fun (x0 w4 w5 : World) (A2 : Option Addr) (c2 : Nat) h1 h2 h3 h4 h5 => ClR.step (w2:=w2) (W3:=W3) (x0:=x0) (w4:=w4) (w5:=w5) (A2:=A2) (c2:=c2) hR.out HREP.out.1.order hxm hok hfit hlk hat (by have:=HB2.out.2.2.1; omega) (Nat.le_of_eq hh.symm) (Nat.lt_succ_self h0) (by omega) hrg2 hlt hg2 hsz2 hb3 h1 h2 h3 h4 h5
    have HSTEP:=Jh hstep
    have HCP:=Jh hcp
    have HKR:=Jh hkr
    have HST3:=Jh hst3
    have HINC:=Jh hinC
    have HZC:=Jh hZC
    have HW3:=Jh hW3
    have HK1:=Jh hk1
    have HK2:=Jh hk2
    have HOK:=Jh hok
    have HME:=Jh (show ∀ w5 : World,w5.ranges Tryz.prog 30 heldR b r nn D (fun z => left z && !z.sameKey (Ad.key ⟨ra,rn,ca,cn⟩)) cnt2 → w5.rangeLeft b r < wr.rangeLeft b r from fun w5 h => by rw [h.left_eq,hrg.left_eq]; exact hlt)
    clear hstep hcp hkr hst3 hinC hCA hZC hW3 hk1 hk2 hb3 hkc hkx hsz3 hstw hh hb2' hre hbr hb23 hwr hsl3 hslw hfit hax hsl hyd hv hen hkey hlk hat hrg2 hlt hg2 hsz2 ex hok hxm hrg
    dsimp only [Ad.val]
    go_wp2_with (first | (refine wpList_contVar rfl rfl (w2.heap.size + 1) (by simp) ?_; rw [← HZC.out]) | (refine wpList_store_row rfl 30 _ _ rfl w2.heap.size #[.int .i64 ra,.int .i64 rn,.int .i64 ca,.int .i64 cn] rfl rfl 30 #[.int .i64 0,.int .i64 0,.int .i64 0,.int .i64 0] HK1.out (by kernel_rfl) rfl (by kernel_rfl) ?_) | (refine wpList_store_row rfl 43 _ _ rfl (w2.heap.size + 1) CA rfl rfl 43 ZC HK2.out HINC.out.1 HINC.out.2.1 HINC.out.2.2.1 ?_) | go_in)
    change Code.wp _ _ _ _ ((((w2.alloc (.cells #[.int .i64 0,.int .i64 0,.int .i64 0,.int .i64 0] 30)).alloc (.cells ZC 43)).setRow w2.heap.size #[.int .i64 ra,.int .i64 rn,.int .i64 ca,.int .i64 cn]).setRow (w2.heap.size + 1) CA)
    rw [← HW3.out]
    obtain ⟨q,hq⟩ : ∃ q,q = w2.heap.size:=⟨_,rfl⟩
    rw [← hq] at HKR ⊢
    clear hq
    refine wp_region_held_drew (S:=fun wx => KeepP h0 (some (h0 + 1)) W3 wx ∧ wx.heap[h0]? = some (.cells #[.map (some (h0 + 1))] 62)) (by kernel_rfl) ⟨KeepP.of_below (Below.refl _ _).drew,HST3.out.1⟩ (fun hHeld => ?_)
    obtain ⟨x0,hx0⟩ : ∃ x,x = W3.drew:=⟨_,rfl⟩
    have HX0:=Jh (show Below W3.heap.size W3 x0 ∧ x0.ownsMap Tryz.prog 30 heldR (h0 + 1) n' Dc from by rw [hx0]; exact ⟨(Below.refl _ W3).drew,HST3.out.2.drew⟩)
    rw [← hx0] at hHeld ⊢
    clear hx0
    refine tkH (i:=0) (v:=.pointer (some ⟨h0,0,none⟩)) rfl hHeld ?_
    try simp only [sX]
    refine tkH (i:=1) (v:=.pointer (some ⟨h0,0,none⟩)) rfl hHeld ?_
    try simp only [sX]
    refine tkH (i:=2) (v:=.pointer (some ⟨h0,0,none⟩)) rfl hHeld ?_
    try simp only [sX]
    refine tkG (i:=3) (v:=.map (some (h0 + 1))) rfl (Or.inl ⟨by kernel_rfl,fun _ hS => ld_mp _ rfl ⟨h0,0,none⟩ rfl _ (cell_of_row _ _ 0 _ _ _ hS.2)⟩) hHeld ?_
    try simp only [sX]
    refine tkG (i:=4) (v:=.agg #[.int .i64 ra,.int .i64 rn,.int .i64 ca,.int .i64 cn]) rfl (yieldsIf_load_mid (by kernel_rfl) 30 _ rfl q 0 rfl [.int .i64 ra,.int .i64 rn,.int .i64 ca,.int .i64 cn] _ (fun _ hS => (HKR.out _ hS.1).1) undCell rfl infCell) hHeld ?_
    try simp only [sX]
    refine tkG (i:=5) (v:=.agg CA.toList.toArray) rfl (yieldsIf_load_mid (by kernel_rfl) 43 _ rfl (q + 1) 0 rfl CA.toList _ (fun _ hS => (HKR.out _ hS.1).2) undC rfl HINC.out.2.2.2) hHeld ?_
    try simp only [sX]
    simp only [Array.toArray_toList]
    refine wpAnyH_ready (rs:=[6]) (by kernel_rfl) (by simp) ?_
    refine AllReadyH.cons rfl (fun K hK => ?_) AllReadyH.nil
    go_simp
    refine (HCP.out _ hHeld.1).mono ?_
    rintro e w4 ⟨A2,c2,rfl,hsl4,hb4⟩
    have HSL4:=Jh (And.intro hsl4 hb4)
    have HO4:=Jh (own_map_below HX0.out.2 hb4)
    try go_simp
    have hH4 : KeepP h0 (some (h0 + 1)) W3 w4 ∧ w4.heap[h0]? = some (.cells #[.map (some (h0 + 1))] 62):=⟨hHeld.1.then_below hb4,(hb4.block h0 (Jg hHeld.2).1).trans hHeld.2⟩
    clear hsl4 hb4
    refine hK.out _ _ hH4 (fun hHeld4 => ?_)
    clear hK K hHeld hH4
    try simp only [sX]
    refine wpAnyH_put (i:=7) (by kernel_rfl) rfl rfl _ _ _ rfl (h0 + 1) n' Dc rfl ⟨ra,rn,ca,cn⟩ HOK.out rfl x A2 c2 rfl HNM.out HO4.out (fun w' hg => ⟨hHeld4.1.then_map hg (.inl rfl),(hg.block h0 (Jg hHeld4.2).1 (fun e => by have:=Option.some.inj e; omega)).trans hHeld4.2⟩) (fun w5 ho5 hg5 hHeld5 => ?_)
    try simp only [Act.put,sX]
    have HCR:=Jh (HSTEP.out x0 w4 w5 A2 c2 HX0.out.1 HSL4.out.2 HSL4.out.1 hg5 ho5)
    clear ho5 hg5 hHeld4
    refine wpAnyH_done (by kernel_rfl) ?_ _
    clear hHeld5
    go_wp2
    go_roundw
    case measure => exact HME.out _ HCR.out.rg
    case rel => exact ⟨_,_,_,_,_,HCR⟩
theorem cloneE_c {w : World} {p : Nat} (h : w.heap[p]? = some (.cells #[.map none] 62)) : Calls Tryz.prog 21 #[.pointer (some ⟨p,0,none⟩)] w fun e w' => e = .returned (.pointer (some ⟨w.heap.size,0,none⟩)) ∧ w' = w.alloc (.cells #[.map none] 62):=by
 obtain ⟨W1,hW1⟩ : ∃ W1,W1 = w.alloc (.cells #[.map none] 62):=⟨_,rfl⟩
 have c1 : W1.cell? ⟨p,0,none⟩ = some (.map none):=by rw [hW1]; exact cell_of_row _ _ 0 _ _ _ ((heapOld _ _ _ (Jg h).1).trans h)
 have hnm:=eqMapNN W1
 have HNEW:=Jh (new_c w)
 have HW1:=Jh hW1
 rw [← hW1]
 clear hW1 h
 go_enter Tryz.func21,Tryz.ntmps21
 go_upto_region 2 with (go_at_call 11; refine HNEW.out.mono ?_; rintro e w' ⟨rfl,hw⟩; rw [hw]; clear hw)
 rw [← HW1.out]
 go_wp2
 first | go_ret | go_ret2
 exact ⟨rfl,rfl⟩
theorem cloneZ_c {w : World} {p n : Nat} {M : List (Ad × Ct)} {Z : Nat → Prop} (h : StZ w p n M Z) (hM : M.length ≤ 1000000) :
 Calls Tryz.prog 21 #[.pointer (some ⟨p,0,none⟩)] w fun e w' => ∃ p',e = .returned (.pointer (some ⟨p',0,none⟩)) ∧ StZ w' p' M.length M (fun b => w.heap.size ≤ b ∧ b < w'.heap.size) ∧ Below w.heap.size w w':=by
 obtain ⟨m,D,T,hst,hrep,hp,hm,hT⟩:=h
 cases m with
 | none =>
  refine (cloneE_c hst.1).mono ?_
  rintro e w' ⟨rfl,rfl⟩
  have hD : D = .map []:=hst.2
  have hM0 : M = []:=by
   have:=hrep.size
   rw [hD] at this
   exact List.eq_nil_of_length_eq_zero this.symm
  subst hM0
  exact ⟨w.heap.size,rfl,⟨none,.map [],fun _ => False,⟨heap_alloc_new _ _,rfl⟩,Rep.empty _ _,⟨Nat.le_refl _,by simp⟩,fun b e => (by cases e),fun b hb => hb.elim⟩,(Below.refl _ _).alloc (Nat.le_refl _) _⟩
 | some b =>
  refine (cloneM_c hst hrep (fun k hk => (hT k hk).2.2.2) hM).mono ?_
  rintro e w' ⟨pc,mc,r,n',Dc,rfl,h1,h2,h3,h4,h5,h6,h7⟩
  have hmw : mc < w'.heap.size:=by obtain ⟨es,clock,e1,-⟩:=h4.2; exact (Jg e1).1
  refine ⟨pc,rfl,⟨some mc,Dc,_,⟨h4.1,World.ownsMap.mono h4.2 h6⟩,h5,⟨h1,by omega⟩,fun b e => by cases e; exact ⟨by omega,hmw⟩,fun k hk => ⟨⟨by omega,hk.2⟩,by omega,fun e => by cases e; omega,hk.2⟩⟩,h7⟩
end Go.Proofs.YtelombedjkbckaaGreatDoor
namespace Go.Proofs.YtelombedjkbckaaGreatDoor
set_option linter.unusedSimpArgs false
set_option linter.unusedVariables false
open Go Go.RowKit Go.Shelf Go.Maps
def PlK (b : Nat) (hM : List (Ad × Ct)) (kA : Option Addr) (kc : Nat) (kp : Option Nat) (Z : Nat → Prop) (W : World) : Prop :=
 kp = none ∨ ∃ pk nk Zk,kp = some pk ∧ StZ W pk nk hM Zk ∧ (∀ k,Zk k → b ≤ k ∧ k < W.heap.size ∧ ¬ Z k) ∧ RowG W (fun g => g < W.heap.size ∧ ¬ Z g) b kA kc hM
def PlR (w : World) (b ps : Nat) (M N : List (Ad × Ct)) (i : Nat) (A : Option Addr) (c : Nat) (hM : List (Ad × Ct)) (kA : Option Addr) (kc : Nat) (kp : Option Nat) (X : Nat → Prop) (W : World) : Prop :=
 ∃ Z : Nat → Prop,StZ W ps i M Z ∧ (∀ k,Z k → b ≤ k ∧ k < W.heap.size) ∧ RowG W (fun g => g < W.heap.size ∧ ¬ Z g) b A c N ∧ PlK b hM kA kc kp Z W ∧ Below b w W ∧ b ≤ W.heap.size ∧ ∀ k,X k → k < W.heap.size ∧ ¬ Z k
section
variable {w W : World} {b ps i c kc : Nat} {M N hM : List (Ad × Ct)} {A kA : Option Addr} {kp : Option Nat} {X : Nat → Prop}
theorem PlR.below_ (h : PlR w b ps M N i A c hM kA kc kp X W) : Below b w W ∧ b ≤ W.heap.size:=by
 obtain ⟨Z,h1,h2,h3,h4,h5,h6,h7⟩:=h
 exact ⟨h5,h6⟩
theorem PlR.below {W' : World} (h : PlR w b ps M N i A c hM kA kc kp X W) (hb : Below W.heap.size W W') : PlR w b ps M N i A c hM kA kc kp X W':=by
 obtain ⟨Z,h1,h2,h3,h4,h5,h6,h7⟩:=h
 have hs:=hb.size
 refine ⟨Z,h1.below hb,fun k hk => ⟨(h2 k hk).1,by have:=(h2 k hk).2; omega⟩,h3.keep (hb.mono h6) (fun k hk => ⟨hb.block k hk.1,by have:=hk.1; omega,hk.2⟩),?_,h5.trans (hb.mono h6),by omega,fun k hk => ⟨by have:=(h7 k hk).1; omega,(h7 k hk).2⟩⟩
 rcases h4 with h4 | ⟨pk,nk,Zk,e,k1,k2,k3⟩
 · exact .inl h4
 · exact .inr ⟨pk,nk,Zk,e,k1.below hb,fun k hk => ⟨(k2 k hk).1,by have:=(k2 k hk).2.1; omega,(k2 k hk).2.2⟩,k3.keep (hb.mono h6) (fun k hk => ⟨hb.block k hk.1,by have:=hk.1; omega,hk.2⟩)⟩
theorem PlR.drop (h : PlR w b ps M N i A c hM kA kc kp X W) : PlR w b ps M N i A c hM kA kc kp (fun _ => False) W:=by
 obtain ⟨Z,h1,h2,h3,h4,h5,h6,h7⟩:=h
 exact ⟨Z,h1,h2,h3,h4,h5,h6,fun k h => h.elim⟩
theorem PlR.box (h : PlR w b ps M N i A c hM kA kc kp X W) (o : Obj) : PlR w b ps M N i A c hM kA kc kp (fun k => k = W.heap.size) (W.alloc o):=by
 obtain ⟨Z,h1,h2,h3,h4,h5,h6,h7⟩:=h
 have hb : Below W.heap.size W (W.alloc o):=(Below.refl _ W).alloc (Nat.le_refl _) o
 have hs:=hb.size
 refine ⟨Z,h1.below hb,fun k hk => ⟨(h2 k hk).1,by have:=(h2 k hk).2; omega⟩,h3.keep (hb.mono h6) (fun k hk => ⟨hb.block k hk.1,by have:=hk.1; omega,hk.2⟩),?_,h5.trans (hb.mono h6),by omega,fun k hk => ⟨by rw [hk]; simp,fun q => by have:=(h2 k q).2; omega⟩⟩
 rcases h4 with h4 | ⟨pk,nk,Zk,e,k1,k2,k3⟩
 · exact .inl h4
 · exact .inr ⟨pk,nk,Zk,e,k1.below hb,fun k hk => ⟨(k2 k hk).1,by have:=(k2 k hk).2.1; omega,(k2 k hk).2.2⟩,k3.keep (hb.mono h6) (fun k hk => ⟨hb.block k hk.1,by have:=hk.1; omega,hk.2⟩)⟩
theorem PlR.rput (h : PlR w b ps M N i A c hM kA kc kp X W) (hN : N.length ≤ 1000) (a : Ad) (x : Ct) (A1 : Option Addr) (c1 : Nat) (hv : x.v.ok) (hd : x.t.d.ok) (hs : SlAt W b A1 c1 x.t.l) (hsz : x.t.size ≤ 1048576) :
 Calls Tryz.prog 17 #[.slice A N.length c,.agg a.cs.toArray,.agg (contA x A1 c1)] W fun e w' => ∃ A2 c2,e = .returned (.tuple #[.slice A2 (putR N a x).1.length c2,.int .i64 (putR N a x).2]) ∧ PlR w b ps M (putR N a x).1 i A2 c2 hM kA kc kp X w' ∧ Below W.heap.size W w':=by
 have h0:=h
 obtain ⟨Z,h1,h2,h3,h4,h5,h6,h7⟩:=h
 refine (rput_c h3 (fun k hk => hk.1) h6 rfl hN a x A1 c1 hv hd hs hsz).mono ?_
 rintro e w' ⟨A2,c2,rfl,hb,hr⟩
 refine ⟨A2,c2,rfl,?_,hb⟩
 have hsz:=hb.size
 refine ⟨Z,h1.below hb,fun k hk => ⟨(h2 k hk).1,by have:=(h2 k hk).2; omega⟩,?_,?_,h5.trans (hb.mono h6),by omega,fun k hk => ⟨by have:=(h7 k hk).1; omega,(h7 k hk).2⟩⟩
 · refine hr.keep (Below.refl _ _) (fun k hk => ⟨rfl,?_⟩)
   rcases hk with hk | hk
   · exact ⟨by have:=hk.1; omega,hk.2⟩
   · exact ⟨hk.2,fun hz => by have:=(h2 k hz).2; omega⟩
 · rcases h4 with h4 | ⟨pk,nk,Zk,e,k1,k2,k3⟩
   · exact .inl h4
   · exact .inr ⟨pk,nk,Zk,e,k1.below hb,fun k hk => ⟨(k2 k hk).1,by have:=(k2 k hk).2.1; omega,(k2 k hk).2.2⟩,k3.keep (hb.mono h6) (fun k hk => ⟨hb.block k hk.1,by have:=hk.1; omega,hk.2⟩)⟩
theorem PlR.sput (h : PlR w b ps M N i A c hM kA kc kp X W) (hi : i < 100000) (hM' : M.length < 10000) (a : Ad) (ha : a.ok) (x : Ct) (A1 : Option Addr) (c1 : Nat) (hv : x.v.ok) (hd : x.t.d.ok) (hs : SlAt W b A1 c1 x.t.l) (hsz : x.t.size ≤ 1048576) :
 Calls Tryz.prog 13 #[.pointer (some ⟨ps,0,none⟩),.agg a.cs.toArray,.agg (contA x A1 c1)] W fun e w' => e = .returned (.int .i64 (putR M a x).2) ∧ PlR w b ps (putR M a x).1 N (i + 1) A c hM kA kc kp X w' ∧ Below b W w' ∧ ∀ k,X k → w'.heap[k]? = W.heap[k]?:=by
 obtain ⟨Z,h1,h2,h3,h4,h5,h6,h7⟩:=h
 refine (putZ_c h1 hi hM' a ha x A1 c1 hv hd (hs.more h6) hsz).mono ?_
 rintro e w' ⟨rfl,k1,k2⟩
 have hsz:=k2.size
 have hb : Below b W w':=⟨k2.os,k2.tape,k2.output,k2.size,fun k hk => k2.block k (by omega) (fun hz => by have:=(h2 k hz).1; omega)⟩
 have hg : ∀ k,(k < W.heap.size ∧ ¬ Z k) → w'.heap[k]? = W.heap[k]? ∧ (k < w'.heap.size ∧ ¬ (Z k ∨ (W.heap.size ≤ k ∧ k < w'.heap.size))):=fun k hk => ⟨k2.block k hk.1 hk.2,by have:=hk.1; omega,fun q => by rcases q with q | q; exact hk.2 q; have:=hk.1; omega⟩
 refine ⟨rfl,⟨_,k1,fun k hk => ?_,h3.keep hb hg,?_,h5.trans hb,by omega,fun k hk => ⟨by have:=(h7 k hk).1; omega,fun q => by rcases q with q | q; exact (h7 k hk).2 q; have:=(h7 k hk).1; omega⟩⟩,hb,fun k hk => k2.block k (h7 k hk).1 (h7 k hk).2⟩
 · rcases hk with hk | hk
   · exact ⟨(h2 k hk).1,by have:=(h2 k hk).2; omega⟩
   · exact ⟨by omega,hk.2⟩
 · rcases h4 with h4 | ⟨pk,nk,Zk,e,q1,q2,q3⟩
   · exact .inl h4
   · refine .inr ⟨pk,nk,Zk,e,q1.keep k2 (fun k hk => (q2 k hk).2.2),fun k hk => ⟨(q2 k hk).1,by have:=(q2 k hk).2.1; omega,fun q => ?_⟩,q3.keep hb hg⟩
     rcases q with q | q
     · exact (q2 k hk).2.2 q
     · have:=(q2 k hk).2.1; omega
theorem PlR.same (h : PlR w b ps M M i A c hM kA kc kp X W) (hM' : M.length ≤ 1000000) : Calls Tryz.prog 15 #[.pointer (some ⟨ps,0,none⟩),.slice A M.length c] W fun e w' => e = .returned (.int .i64 1) ∧ Below W.heap.size W w':=by
 obtain ⟨Z,h1,h2,h3,h4,h5,h6,h7⟩:=h
 exact same18Z_c h1 (fun k hk => (h2 k hk).2) hM' (h3.row (fun k hk => hk.1) h6)
theorem PlR.kept (h : PlR w b ps M N i A c hM kA kc kp X W) (pk : Nat) (hk : kp = some pk) (hM' : hM.length ≤ 1000000) : Calls Tryz.prog 15 #[.pointer (some ⟨pk,0,none⟩),.slice kA hM.length kc] W fun e w' => e = .returned (.int .i64 1) ∧ Below W.heap.size W w':=by
 obtain ⟨Z,h1,h2,h3,h4,h5,h6,h7⟩:=h
 rcases h4 with h4 | ⟨pk',nk,Zk,e,k1,k2,k3⟩
 · rw [hk] at h4; cases h4
 · obtain rfl : pk = pk':=Option.some.inj (hk.symm.trans e)
   exact same18Z_c k1 (fun k hk => (k2 k hk).2.1) hM' (k3.row (fun k hk => hk.1) h6)
theorem PlR.get (h : PlR w b ps M N i A c hM kA kc kp X W) (a : Ad) (ha : a.ok) : Calls Tryz.prog 19 #[.pointer (some ⟨ps,0,none⟩),.agg a.cs.toArray] W fun e w' => ∃ A' c',e = .returned (.agg (contA (getM M a) A' c')) ∧ SlAt w' w'.heap.size A' c' (getM M a).t.l ∧ Below W.heap.size W w':=by
 obtain ⟨Z,h1,h2,h3,h4,h5,h6,h7⟩:=h
 refine (getZ_c h1 a ha).mono ?_
 rintro e w' ⟨A',c',rfl,hs,hb⟩
 exact ⟨A',c',rfl,hs.at_ (fun k _ hk => hk.2),hb⟩
theorem PlR.okM (h : PlR w b ps M N i A c hM kA kc kp X W) (a : Ad) : (getM M a).t.d.ok:=by
 obtain ⟨Z,h1,h2,h3,h4,h5,h6,h7⟩:=h
 rcases getM_ok h1 a with h | h
 · rw [h]; exact zNd_ok
 · exact h.d
theorem PlR.rget (h : PlR w b ps M N i A c hM kA kc kp X W) (a : Ad) : Calls Tryz.prog 20 #[.slice A N.length c,.agg a.cs.toArray] W fun e w' => ∃ A' c',e = .returned (.agg (contA (getM N a) A' c')) ∧ SlAt w' w'.heap.size A' c' (getM N a).t.l ∧ Below W.heap.size W w':=by
 obtain ⟨Z,h1,h2,h3,h4,h5,h6,h7⟩:=h
 refine (rget_c h3 (fun k hk => hk.1) h6 a rfl).mono ?_
 rintro e w' ⟨A',c',rfl,hs,hb⟩
 exact ⟨A',c',rfl,hs.more (by have:=hb.size; omega),hb⟩
theorem PlR.clone (h : PlR w b ps M M i A c hM kA kc kp X W) (hM' : M.length ≤ 1000000) : Calls Tryz.prog 21 #[.pointer (some ⟨ps,0,none⟩)] W fun e w' => ∃ pk,e = .returned (.pointer (some ⟨pk,0,none⟩)) ∧ PlR w b ps M M i A c M A c (some pk) X w' ∧ Below W.heap.size W w':=by
 have h0:=h
 obtain ⟨Z,h1,h2,h3,h4,h5,h6,h7⟩:=h
 refine (cloneZ_c h1 hM').mono ?_
 rintro e w' ⟨pk,rfl,k1,hb⟩
 have hsz:=hb.size
 have hr : RowG w' (fun g => g < w'.heap.size ∧ ¬ Z g) b A c M:=h3.keep (hb.mono h6) (fun k hk => ⟨hb.block k hk.1,by have:=hk.1; omega,hk.2⟩)
 refine ⟨pk,rfl,⟨Z,h1.below hb,fun k hk => ⟨(h2 k hk).1,by have:=(h2 k hk).2; omega⟩,hr,.inr ⟨pk,_,_,rfl,k1,fun k hk => ⟨by omega,hk.2,fun hz => by have:=(h2 k hz).2; omega⟩,hr⟩,h5.trans (hb.mono h6),by omega,fun k hk => ⟨by have:=(h7 k hk).1; omega,(h7 k hk).2⟩⟩,hb⟩
end
theorem PlR.start {w W : World} {b ps : Nat} (h : W.heap[ps]? = some (.cells #[.map none] 62)) (hp : b ≤ ps) (hb : Below b w W) : PlR w b ps [] [] 0 none 0 [] none 0 none (fun _ => False) W:=by
 have hl:=(Jg h).1
 exact ⟨fun k => k = ps,⟨none,.map [],fun _ => False,⟨h,rfl⟩,Rep.empty _ _,rfl,fun b e => (by cases e),fun b h => h.elim⟩,fun k hk => by omega,RowG.nil _ _ _ _ _ (by decide),.inl rfl,hb,by omega,fun k h => h.elim⟩
def zHn : Hn:=⟨⟨0,0,0,0⟩,zCt,none,0⟩
theorem wpList_cellVar {ops : Array Oper} {rest : List Oper} {o : Oper} {a : Act} {w : World} {Q : Exit → Act → World → Prop} (hg : o.guard = none) (ho : o.op = .alloc 45) (g : Nat) (hz : w.heap.size = g)
 (h : wpList Tryz.prog ops Q rest (a.put o.dst (.pointer (some ⟨g,0,none⟩))) (w.alloc (.cells zHn.cells.toArray 45))) : wpList Tryz.prog ops Q (o :: rest) a w:=by
 subst hz
 refine Great.wpList_allocTo hg o.dst rfl _ _ ?_ h
 unfold execOp
 simp only [ho]
 kernel_rfl
end Go.Proofs.YtelombedjkbckaaGreatDoor
namespace Go.Proofs.YtelombedjkbckaaGreatDoor
set_option maxRecDepth 100000
set_option maxHeartbeats 8000000
set_option linter.unusedSimpArgs false
set_option linter.unusedVariables false
open Go Go.RowKit Go.Shelf Go.Maps
theorem cellsPlay_walk (l : List (Ad × Ct)) (ask : Ad) (hask : ask.ok) (w : World) (A : Option Addr) (c : Nat) (hrow : RowC w w.heap.size A c l) (hok : ∀ e ∈ l, e.1.ok ∧ e.2.v.ok ∧ e.2.t.d.ok ∧ e.2.t.size ≤ 1048576) (ht : Tab w) :
 Calls Tryz.prog 4 #[.slice A l.length c,.agg ask.cs.toArray] w fun e w' => e = .returned (.bool true) ∧ Below w.heap.size w w':=by
 obtain ⟨b,hb⟩ : ∃ b,b = w.heap.size:=⟨_,rfl⟩
 obtain ⟨n,hn⟩ : ∃ n,n = l.length:=⟨_,rfl⟩
 obtain ⟨AK,hAK⟩ : ∃ k,k = ask.cs.toArray:=⟨_,rfl⟩
 obtain ⟨W0,hW0⟩ : ∃ W0,W0 = w.alloc (.cells AK 30):=⟨_,rfl⟩
 have hbel : Below b w W0:=by rw [hW0,hb]; exact (Below.refl _ w).alloc (Nat.le_refl _) _
 have hk0 : W0.heap[b]? = some (.cells AK 30):=by rw [hW0,hb]; exact heap_alloc_new _ _
 have hz0 : W0.heap.size = b + 1:=by rw [hW0,hb]; simp
 have hrowW : ∀ wx,Below b w wx → RowC wx b A c l:=fun wx hx => by rw [← hb] at hrow; exact hrow.below hx (Nat.le_refl _)
 have haw:=awake18_c W0 (tab_below ht (by rw [← hb]; exact hbel))
 have hcc : 0 < n → n ≤ c ∧ c ≤ 9223372036854775807:=fun _ => ⟨by rw [hn]; exact hrow.1,hrow.2.1⟩
 have hACL : ∀ a : Ad,(Tryz.prog.info? 30).map (·.size) = some (Ad.cs a).toArray.toList.length:=fun _ => infCell
 rw [← hn,← hAK]
 have HW0:=Jh hW0
 have HB:=Jh hb
 have HBL:=Jh (And.intro hbel (And.intro hk0 hz0))
 have HROW:=Jh hrowW
 have HAW:=Jh haw
 have HOK:=Jh (And.intro hok (And.intro hn (And.intro hask hAK)))
 have HACL0:=Jh hACL
 clear hW0 hb hbel hk0 hz0 hrowW haw hok hn hask hAK hACL hrow ht
 go_enter Tryz.func4,Tryz.ntmps4
 go_upto_region 1 with (fail)
 rw [← HW0.out,← HB.out]
 by_cases hgt : (60 : Int) < (n : Int)
 · go_wp2_with (first | (go_at_call 10; refine HAW.out.mono ?_; rintro e w1 ⟨rfl,hb1⟩; have HX:=Jh hb1; clear hb1) | fail)
   first | go_ret | go_ret2
   have h1:=HBL.out.1
   rw [HB.out] at h1
   exact ⟨rfl,h1.trans (HX.out.mono h1.size)⟩
 have hn60 : n ≤ 60:=by omega
 go_upto_region 6 with (first | (go_at_call 10; refine HAW.out.mono ?_; rintro e w1 ⟨rfl,hb1⟩; have HX:=Jh hb1; clear hb1) | (go_at_call 11; refine (new_c _).mono ?_; rintro e w2 ⟨rfl,hw2⟩; have HN2:=Jh hw2; clear hw2) | fail)
 obtain ⟨ps,hps⟩ : ∃ p,p = w1.heap.size:=⟨_,rfl⟩
 obtain ⟨b1,hb1⟩ : ∃ k,k = b + 1:=⟨_,rfl⟩
 have hpb : b1 ≤ ps:=by have:=HX.out.size; have:=HBL.out.2.2; omega
 have hst : PlR W0 b1 ps [] [] 0 none 0 [] none 0 none (fun _ => False) w2:=by
  have e:=HN2.out
  subst e
  exact PlR.start (by rw [hps]; exact heap_alloc_new _ _) hpb ((HX.out.mono (by have:=HBL.out.2.2; omega)).alloc (by omega) _)
 rw [← hps]
 have HST:=Jh hst
 have HB1:=Jh (And.intro hb1 (show b ≤ b1 by omega))
 clear hps hst hpb hb1 HX HN2 HAW
 go_wp2_with (fail)
 go_loopw [6,7,8,21] (fun av hv kv iv wr => ∃ i : Nat,i ≤ n ∧ iv = .int .i64 i ∧ ∃ (A2 kA : Option Addr) (nM c2 nH kc : Nat) (kp : Option Nat),av = .slice A2 nM c2 ∧ hv = .slice kA nH kc ∧ kv = .pointer (kp.map fun p => ⟨p,0,none⟩) ∧ Hid (∃ hM,PlR W0 b1 ps (playL (l.take i)) (playL (l.take i)) i A2 c2 hM kA kc kp (fun _ => False) wr ∧ nM = (playL (l.take i)).length ∧ nH = hM.length ∧ nH ≤ 60 ∧ (kp = none → i ≤ n / 2))) (fun _ _ _ iv _ => n - (intOf iv).toNat)
 case atStart => exact ⟨0,Nat.zero_le _,rfl,none,none,0,0,0,0,none,rfl,rfl,rfl,Jh ⟨[],HST.out,rfl,rfl,by omega,fun _ => by omega⟩⟩
 case round =>
  obtain ⟨i,hin,rfl,A2,kA,nM,c2,nH,kc,kp,rfl,rfl,rfl,hR⟩:=hrel
  by_cases hi : i < n
  · have hiI : (i : Int) < (n : Int):=by omega
    have hi0 : (0 : Int) ≤ i:=by omega
    obtain ⟨hc1,hc2⟩:=hcc (by omega)
    have hil : i < l.length:=by rw [← HOK.out.2.1]; exact hi
    obtain ⟨hM,hpl,enM,enH,hH60,hkp⟩:=hR.out
    obtain ⟨hbw1,hbs1⟩:=hpl.below_
    have hbw : Below b w wr:=HBL.out.1.trans (hbw1.mono HB1.out.2)
    have hbs : b ≤ wr.heap.size:=by have:=HB1.out.2; omega
    have hrw:=HROW.out wr hbw
    obtain ⟨gl,of,hA⟩ : ∃ gl of,A = some ⟨gl,of,none⟩:=by
     obtain ⟨g,o,e,-⟩:=hrw.2.2.resolve_left (fun e => by rw [e] at hil; exact absurd hil (Nat.not_lt_zero _))
     exact ⟨g,o,e⟩
    subst hA
    obtain ⟨gl',of',eg,hglb,hrr⟩:=hrw.2.2.resolve_left (fun e => by rw [e] at hil; exact absurd hil (Nat.not_lt_zero _))
    simp only [Option.some.injEq,Addr.mk.injEq,and_true] at eg
    obtain ⟨rfl,rfl⟩:=eg
    obtain ⟨A1,c1,hri,hsi⟩:=hrr i hil
    have hoki:=HOK.out.1 l[i] (List.getElem_mem hil)
    have htake : l.take (i + 1) = l.take i ++ [l[i]]:=List.take_succ_eq_append_getElem hil
    obtain ⟨ai,hai⟩ : ∃ a,a = l[i].1:=⟨_,rfl⟩
    obtain ⟨xi,hxi⟩ : ∃ x,x = l[i].2:=⟨_,rfl⟩
    have hplay : playL (l.take (i + 1)) = (putR (playL (l.take i)) ai xi).1:=by rw [htake,playL_snoc,hai,hxi]
    rw [← hai,← hxi] at hri hoki
    rw [← hxi] at hsi
    obtain ⟨NX,hNX⟩ : ∃ N,N = (Hn.cells ⟨ai,xi,A1,c1⟩).toArray:=⟨_,rfl⟩
    obtain ⟨AC,hAC⟩ : ∃ N,N = (Ad.cs ai).toArray:=⟨_,rfl⟩
    obtain ⟨CX,hCX⟩ : ∃ N,N = contA xi A1 c1:=⟨_,rfl⟩
    have hM60 : (playL (l.take i)).length ≤ 60:=by
     have:=playL_len (l.take i) (M:=[])
     simp only [List.length_nil,List.length_take] at this
     unfold playL
     omega
    have hM61 : (playL (l.take (i + 1))).length ≤ 60:=by
     have:=playL_len (l.take (i + 1)) (M:=[])
     simp only [List.length_nil,List.length_take] at this
     unfold playL
     omega
    obtain ⟨gx,hgx⟩ : ∃ g,g = wr.heap.size:=⟨_,rfl⟩
    obtain ⟨W2,hW2⟩ : ∃ W2,W2 = wr.alloc (.cells NX 45):=⟨_,rfl⟩
    have hb2 : Below wr.heap.size wr W2:=by rw [hW2]; exact (Below.refl _ _).alloc (Nat.le_refl _) _
    have hkx : W2.heap[gx]? = some (.cells NX 45):=by rw [hW2,hgx]; exact heap_alloc_new _ _
    have hz2 : W2.heap.size = gx + 1:=by rw [hW2,hgx]; simp
    have hkxw : ∀ wz : World,wz.heap[gx]? = W2.heap[gx]? → wz.rangeAt gx 0 AC.toList ∧ wz.rangeAt gx 4 CX.toList:=fun wz hz => by
     have h:=rowC_parts (w:=wz) (g:=gx) (o:=0) (a:=ai) (x:=xi) (A:=A1) (c:=c1) (row_rangeB (hz.trans (by rw [hkx,hNX]; rfl)))
     rw [hAC,hCX]
     exact ⟨h.1,by simpa using h.2⟩
    have hpl2 : PlR W0 b1 ps (playL (l.take i)) (playL (l.take i)) i A2 c2 hM kA kc kp (fun k => k = gx) W2:=by rw [hW2,hgx]; exact hpl.box _
    have hsm:=small_c xi W2 b A1 c1 hoki.2.1 hoki.2.2.1 (hsi.below (hb2.mono hbs)) (by have:=hb2.size; omega) hoki.2.2.2
    rw [contV,← hCX] at hsm
    obtain ⟨sm,hsmd⟩ : ∃ s,smallI xi = s:=⟨_,rfl⟩
    have hsm01 : sm = 0 ∨ sm = 1:=by rw [← hsmd]; unfold smallI; split <;> simp
    rw [hsmd] at hsm
    have HSMALL:=Jh hsm
    have HRR:=Jh (show wr.rangeAt gl (of + i * 33) NX.toList from by rw [hNX]; exact hri)
    have HNX:=Jh (And.intro (show (Tryz.prog.info? 45).map (·.size) = some NX.toList.length from by rw [hNX]; exact infRc_) (And.intro (show (Tryz.prog.info? 45).map (·.size) = some NX.size from by rw [hNX]; exact infRc_) (And.intro (show zHn.cells.toArray.size = NX.size from by rw [hNX]; rfl) (show NX.all (·.oneCell') = true from by rw [hNX]; exact all_oneCell_toArray (fun u hu => Hn.cells_one ⟨ai,xi,A1,c1⟩ u hu)))))
    have HCX:=Jh (show (Tryz.prog.info? 43).map (·.size) = some CX.toList.length from by rw [hCX]; exact infC)
    have HACL:=Jh (And.intro (show (Tryz.prog.info? 30).map (·.size) = some AK.toList.length from by rw [HOK.out.2.2.2]; exact HACL0.out ask) (show (Tryz.prog.info? 30).map (·.size) = some AC.toList.length from by rw [hAC]; exact HACL0.out ai))
    have HGX:=Jh (show wr.heap.size = gx from hgx.symm)
    have HW2:=Jh hW2
    have HX2:=Jh (And.intro hkx (And.intro hz2 hkxw))
    have HPL2:=Jh (And.intro hpl2 (And.intro hb2 (And.intro hbw (And.intro hbs (And.intro hbw1 hbs1)))))
    have HAI:=Jh (And.intro hoki (And.intro hplay (And.intro hAC (And.intro hCX (And.intro (hsi.below (hb2.mono hbs)) (And.intro hM60 hM61))))))
    have HH:=Jh (And.intro enM (And.intro enH (And.intro hH60 hkp)))
    clear hpl enM enH hH60 hkp hbw hbs hbw1 hbs1 hrw hrr hri hsi hoki htake hai hxi hplay hNX hAC hCX hM60 hM61 hgx hW2 hb2 hkx hz2 hkxw hpl2 hsm hsmd hglb hil
    rcases hsm01 with rfl | rfl
    · go_wp2_with (first | (refine wpList_midA rfl 45 _ rfl gl (of + i * 33) rfl NX _ HRR.out undRc rfl HNX.out.1 ?_) | (refine wpList_cellVar rfl rfl gx HGX.out ?_) | (refine wpList_storeFresh (w:=wr) rfl 45 _ _ rfl gx HGX.out NX rfl rfl HNX.out.2.1 HNX.out.2.2.1 HNX.out.2.2.2 ?_; rw [← HW2.out]) | (refine wpList_midA rfl 43 _ rfl gx 4 rfl CX _ (HX2.out.2.2 W2 rfl).2 undC rfl HCX.out ?_) | (go_at_call 12; refine HSMALL.out.mono ?_; rintro e w1 ⟨rfl,hb1⟩; have HB1:=Jh hb1; clear hb1) | fail)
      first | go_ret | go_ret2
      rw [← HB.out]
      obtain ⟨q1,q2,q3,q4,q5,q6⟩:=HPL2.out
      exact ⟨rfl,(q3.trans (q2.mono q4)).trans (HB1.out.mono (by have:=q2.size; omega))⟩
    · obtain ⟨M,hMd⟩ : ∃ M,M = playL (l.take i):=⟨_,rfl⟩
      obtain ⟨M',hMd'⟩ : ∃ M',M' = (putR M ai xi).1:=⟨_,rfl⟩
      obtain ⟨er,her⟩ : ∃ er,er = (putR M ai xi).2:=⟨_,rfl⟩
      have hM60 : M.length ≤ 60:=by rw [hMd]; exact HAI.out.2.2.2.2.2.1
      have hM61 : M'.length ≤ 60:=by rw [hMd',hMd,← HAI.out.2.1]; exact HAI.out.2.2.2.2.2.2
      have hpl2 : PlR W0 b1 ps M M i A2 c2 hM kA kc kp (fun k => k = gx) W2:=by rw [hMd]; exact HPL2.out.1
      have enM : nM = M.length:=by rw [hMd]; exact HH.out.1
      have hrp : ∀ wz,Below W2.heap.size W2 wz → Calls Tryz.prog 17 #[.slice A2 nM c2,.agg AC,.agg CX] wz fun e w' => ∃ A3 c3 n3,e = .returned (.tuple #[.slice A3 n3 c3,.int .i64 er]) ∧ (PlR W0 b1 ps M M' i A3 c3 hM kA kc kp (fun k => k = gx) w' ∧ n3 = M'.length) ∧ Below wz.heap.size wz w':=fun wz hz => by
       obtain ⟨q1,q2,q3,q4,q5,q6⟩:=HPL2.out
       obtain ⟨o1,o2,o3,o4,o5,o6,o7⟩:=HAI.out
       have hzz:=q2.size
       rw [enM,o3,o4,her,hMd']
       refine ((hpl2.below hz).rput (by omega) ai xi A1 c1 o1.2.1 o1.2.2.1 ((o5.below (hz.mono (by omega))).more HB1.out.2) o1.2.2.2).mono ?_
       rintro e w' ⟨A3,c3,rfl,h1,h2⟩
       exact ⟨A3,c3,_,rfl,⟨h1,rfl⟩,h2⟩
      have hsp : ∀ wz A3 c3,Below W2.heap.size W2 wz → PlR W0 b1 ps M M' i A3 c3 hM kA kc kp (fun k => k = gx) wz → Calls Tryz.prog 13 #[.pointer (some ⟨ps,0,none⟩),.agg AC,.agg CX] wz fun e w' => e = .returned (.int .i64 er) ∧ PlR W0 b1 ps M' M' (i + 1) A3 c3 hM kA kc kp (fun k => k = gx) w' ∧ w'.heap[gx]? = W2.heap[gx]?:=fun wz A3 c3 hz hp => by
       obtain ⟨q1,q2,q3,q4,q5,q6⟩:=HPL2.out
       obtain ⟨o1,o2,o3,o4,o5,o6,o7⟩:=HAI.out
       have hzz:=q2.size
       rw [o3,o4,her]
       refine (hp.sput (by omega) (by omega) ai o1.1 xi A1 c1 o1.2.1 o1.2.2.1 ((o5.below (hz.mono (by omega))).more HB1.out.2) o1.2.2.2).mono ?_
       rintro e w' ⟨rfl,h1,h2,h3⟩
       rw [← hMd'] at h1
       exact ⟨rfl,h1,(h3 gx rfl).trans (hz.block gx (by have:=HX2.out.2.1; omega))⟩
      have HRP:=Jh hrp
      have HSP:=Jh hsp
      have HPM:=Jh (show playL (l.take (i + 1)) = M' from by rw [hMd',hMd]; exact HAI.out.2.1)
      have HM61:=Jh hM61
      clear hMd hMd' her hM60 hM61 hpl2 enM hrp hsp
      go_upto_region 17 with (first | (refine wpList_midA rfl 45 _ rfl gl (of + i * 33) rfl NX _ HRR.out undRc rfl HNX.out.1 ?_) | (refine wpList_cellVar rfl rfl gx HGX.out ?_) | (refine wpList_storeFresh (w:=wr) rfl 45 _ _ rfl gx HGX.out NX rfl rfl HNX.out.2.1 HNX.out.2.2.1 HNX.out.2.2.2 ?_; rw [← HW2.out]; have HF:=Jh (show Below W2.heap.size W2 W2 ∧ True from ⟨Below.refl _ _,trivial⟩)) | (refine wpList_midA rfl 43 _ rfl gx 4 rfl CX _ (HX2.out.2.2 _ (HF.out.1.block gx (by have:=HX2.out.2.1; omega))).2 undC rfl HCX.out ?_) | (refine wpList_midA rfl 30 _ rfl gx 0 rfl AC _ (HX2.out.2.2 _ (HF.out.1.block gx (by have:=HX2.out.2.1; omega))).1 undCell rfl HACL.out.2 ?_) | (go_at_call 12; refine HSMALL.out.mono ?_; rintro e w1 ⟨rfl,hb1⟩; clear HF; have HF:=Jh (show Below W2.heap.size W2 w1 ∧ True from ⟨hb1,trivial⟩); clear hb1) | (go_at_call 17; refine (HRP.out _ HF.out.1).mono ?_; rintro e w4 ⟨A3,c3,n3,rfl,hp4,hb4⟩; have HP4:=Jh hp4; have hf4:=HF.out.1.trans (hb4.mono HF.out.1.size); clear HF hp4 hb4; have HF:=Jh (show Below W2.heap.size W2 w4 ∧ True from ⟨hf4,trivial⟩); clear hf4) | (go_at_call 13; refine (HSP.out _ _ _ HF.out.1 HP4.out.1).mono ?_; rintro e w5 ⟨rfl,hp5,hx5⟩; have HP5:=Jh (And.intro hp5 hx5); clear hp5 hx5) | fail)
      obtain ⟨wa,hwa⟩ : ∃ x,x = w5:=⟨_,rfl⟩
      have en3 : n3 = M'.length:=HP4.out.2
      obtain ⟨hp5,hx5⟩:=HP5.out
      rw [← hwa] at hp5 hx5 ⊢
      have hSM : ∀ wz,Below wa.heap.size wa wz → Calls Tryz.prog 15 #[.pointer (some ⟨ps,0,none⟩),.slice A3 n3 c3] wz fun e w' => e = .returned (.int .i64 1) ∧ Below wz.heap.size wz w':=fun wz hz => by rw [en3]; exact (hp5.below hz).same (by have:=HM61.out; omega)
      have hGK : ∀ wz,Below wa.heap.size wa wz → Calls Tryz.prog 19 #[.pointer (some ⟨ps,0,none⟩),.agg AK] wz fun e w' => ∃ A' c',e = .returned (.agg (contA (getM M' ask) A' c')) ∧ SlAt w' w'.heap.size A' c' (getM M' ask).t.l ∧ Below wz.heap.size wz w':=fun wz hz => by rw [HOK.out.2.2.2]; exact (hp5.below hz).get ask HOK.out.2.2.1
      have hGX : ∀ wz,Below wa.heap.size wa wz → Calls Tryz.prog 19 #[.pointer (some ⟨ps,0,none⟩),.agg AC] wz fun e w' => ∃ A' c',e = .returned (.agg (contA (getM M' ai) A' c')) ∧ SlAt w' w'.heap.size A' c' (getM M' ai).t.l ∧ Below wz.heap.size wz w':=fun wz hz => by rw [HAI.out.2.2.1]; exact (hp5.below hz).get ai HAI.out.1.1
      have hRK : ∀ wz,Below wa.heap.size wa wz → Calls Tryz.prog 20 #[.slice A3 n3 c3,.agg AK] wz fun e w' => ∃ A' c',e = .returned (.agg (contA (getM M' ask) A' c')) ∧ SlAt w' w'.heap.size A' c' (getM M' ask).t.l ∧ Below wz.heap.size wz w':=fun wz hz => by rw [HOK.out.2.2.2,en3]; exact (hp5.below hz).rget ask
      have hRX : ∀ wz,Below wa.heap.size wa wz → Calls Tryz.prog 20 #[.slice A3 n3 c3,.agg AC] wz fun e w' => ∃ A' c',e = .returned (.agg (contA (getM M' ai) A' c')) ∧ SlAt w' w'.heap.size A' c' (getM M' ai).t.l ∧ Below wz.heap.size wz w':=fun wz hz => by rw [HAI.out.2.2.1,en3]; exact (hp5.below hz).rget ai
      have hEQ : ∀ (k : Ad) (wz : World) A' c' A'' c'',SlAt wz wz.heap.size A' c' (getM M' k).t.l → SlAt wz wz.heap.size A'' c'' (getM M' k).t.l → Calls Tryz.prog 18 #[.agg (contA (getM M' k) A' c'),.agg (contA (getM M' k) A'' c'')] wz fun e w' => e = .returned (.bool true) ∧ Below wz.heap.size wz w':=fun k wz A' c' A'' c'' h1 h2 => by
       have h:=rcsame_c (getM M' k) (getM M' k) wz wz.heap.size A' A'' c' c'' (hp5.okM k) h1 (hp5.okM k) h2 (Nat.le_refl _)
       rw [sameC_self] at h
       exact h
      have hkb : ∀ wz,Below wa.heap.size wa wz → wz.rangeAt b 0 AK.toList:=fun wz hz => by
       obtain ⟨p1,p2⟩:=hp5.below_
       have e:=HB1.out.1
       exact row_rangeB ((hz.block b (by omega)).trans ((p1.block b (by omega)).trans (by have h:=HBL.out.2.1; rwa [← Array.toArray_toList (xs:=AK)] at h)))
      have hkx : ∀ wz,Below wa.heap.size wa wz → wz.rangeAt gx 0 AC.toList ∧ wz.rangeAt gx 4 CX.toList:=fun wz hz => HX2.out.2.2 wz ((hz.block gx (by
       have h1:=(Jg (hx5.trans HX2.out.1)).1
       exact h1)).trans hx5)
      have hclo : ∀ wz,Below wa.heap.size wa wz → Calls Tryz.prog 21 #[.pointer (some ⟨ps,0,none⟩)] wz fun e w' => ∃ pk,e = .returned (.pointer (some ⟨pk,0,none⟩)) ∧ PlR W0 b1 ps M' M' (i + 1) A3 c3 M' A3 c3 (some pk) (fun k => k = gx) w':=fun wz hz => ((hp5.below hz).clone (by have:=HM61.out; omega)).mono (fun e w' ⟨pk,h1,h2,h3⟩ => ⟨pk,h1,h2⟩)
      obtain ⟨YK,hYK⟩ : ∃ f : Option Addr → Nat → Array Value,f = contA (getM M' ask):=⟨_,rfl⟩
      obtain ⟨YX,hYX⟩ : ∃ f : Option Addr → Nat → Array Value,f = contA (getM M' ai):=⟨_,rfl⟩
      have hEK:=hEQ ask
      have hEX:=hEQ ai
      rw [← hYK] at hGK hRK hEK
      rw [← hYX] at hGX hRX hEX
      have HSM:=Jh hSM
      have HGK:=Jh hGK
      have HGX:=Jh hGX
      have HRK:=Jh hRK
      have HRX:=Jh hRX
      have HEK:=Jh hEK
      have HEX:=Jh hEX
      have HKB:=Jh hkb
      have HKX:=Jh hkx
      have HCLO:=Jh hclo
      have HP6:=Jh hp5
      have HEN:=Jh en3
      clear hSM hGK hGX hRK hRX hEQ hEK hEX hkb hkx hclo hYK hYX hp5 hx5 en3 hwa HP4 HP5 HF
      refine wp_region_held_drew (S:=fun wz => Below wa.heap.size wa wz) (by kernel_rfl) (Below.refl _ _).drew (fun hHeld => ?_)
      refine tkH (i:=0) (v:=.pointer (some ⟨ps,0,none⟩)) rfl hHeld ?_
      try simp only [sX]
      refine tkH (i:=1) (v:=.slice A3 n3 c3) rfl hHeld ?_
      try simp only [sX]
      refine wpAnyH_ready (rs:=[2]) (by kernel_rfl) (by simp) ?_
      refine AllReadyH.cons rfl (fun K hK => ?_) AllReadyH.nil
      go_simp
      refine (HSM.out _ hHeld).mono ?_
      rintro e _ ⟨rfl,hbl⟩
      try go_simp
      refine hK.out _ _ (hHeld.trans (hbl.mono hHeld.size)) (fun hHeld1 => ?_)
      clear hK K hHeld hbl
      have hHeld:=hHeld1
      clear hHeld1
      try simp only [sX]
      refine tkH (i:=3) (v:=.bool false) rfl hHeld ?_
      try simp only [sX]
      refine tkH (i:=4) (v:=.bool false) rfl hHeld ?_
      try simp only [sX]
      refine tkH (i:=5) (v:=.pointer (some ⟨ps,0,none⟩)) rfl hHeld ?_
      try simp only [sX]
      refine tkG (i:=6) (v:=.agg AK) rfl (yieldsIf_midC (by kernel_rfl) 30 _ rfl b 0 rfl AK _ (fun _ hS => HKB.out _ hS) undCell rfl HACL.out.1) hHeld ?_
      try simp only [sX]
      refine tkH (i:=8) (v:=.slice A3 n3 c3) rfl hHeld ?_
      try simp only [sX]
      refine tkG (i:=9) (v:=.agg AK) rfl (yieldsIf_midC (by kernel_rfl) 30 _ rfl b 0 rfl AK _ (fun _ hS => HKB.out _ hS) undCell rfl HACL.out.1) hHeld ?_
      try simp only [sX]
      refine wpAnyH_ready (rs:=[7]) (by kernel_rfl) (by simp) ?_
      refine AllReadyH.cons rfl (fun K hK => ?_) AllReadyH.nil
      go_simp
      refine (HGK.out _ hHeld).mono ?_
      rintro e _ ⟨A5,c5,rfl,hs5,hbl⟩
      try go_simp
      refine hK.out _ _ (hHeld.trans (hbl.mono hHeld.size)) (fun hHeld1 => ?_)
      have HS5:=Jh hs5
      clear hs5
      clear hK K hHeld hbl
      have hHeld:=hHeld1
      clear hHeld1
      try simp only [sX]
      refine wpAnyH_ready (rs:=[10]) (by kernel_rfl) (by simp) ?_
      refine AllReadyH.cons rfl (fun K hK => ?_) AllReadyH.nil
      go_simp
      refine (HRK.out _ hHeld).mono ?_
      rintro e _ ⟨A6,c6,rfl,hs6,hbl⟩
      try go_simp
      refine hK.out _ _ (hHeld.trans (hbl.mono hHeld.size)) (fun hHeld1 => ?_)
      have HS6:=Jh (And.intro (HS5.out.below hbl) (And.intro hs6 hbl.size))
      clear hs6 HS5
      clear hK K hHeld hbl
      have hHeld:=hHeld1
      clear hHeld1
      try simp only [sX]
      refine wpAnyH_ready (rs:=[11]) (by kernel_rfl) (by simp) ?_
      refine AllReadyH.cons rfl (fun K hK => ?_) AllReadyH.nil
      go_simp
      refine (HEK.out _ A5 c5 A6 c6 (HS6.out.1.more HS6.out.2.2) HS6.out.2.1).mono ?_
      rintro e _ ⟨rfl,hbl⟩
      try go_simp
      refine hK.out _ _ (hHeld.trans (hbl.mono hHeld.size)) (fun hHeld1 => ?_)
      clear hK K hHeld hbl
      have hHeld:=hHeld1
      clear hHeld1
      try simp only [sX]
      refine tkH (i:=12) (v:=.bool false) rfl hHeld ?_
      try simp only [sX]
      refine tkH (i:=13) (v:=.bool false) rfl hHeld ?_
      try simp only [sX]
      refine tkH (i:=14) (v:=.bool false) rfl hHeld ?_
      try simp only [sX]
      refine tkH (i:=15) (v:=.pointer (some ⟨ps,0,none⟩)) rfl hHeld ?_
      try simp only [sX]
      refine tkH (i:=16) (v:=.pointer (some ⟨gx,0,none⟩)) rfl hHeld ?_
      try simp only [sX]
      refine tkG (i:=17) (v:=.agg AC) rfl (yieldsIf_midC (by kernel_rfl) 30 _ rfl gx 0 rfl AC _ (fun _ hS => (HKX.out _ hS).1) undCell rfl HACL.out.2) hHeld ?_
      try simp only [sX]
      refine tkH (i:=19) (v:=.slice A3 n3 c3) rfl hHeld ?_
      try simp only [sX]
      refine tkH (i:=20) (v:=.pointer (some ⟨gx,0,none⟩)) rfl hHeld ?_
      try simp only [sX]
      refine tkG (i:=21) (v:=.agg AC) rfl (yieldsIf_midC (by kernel_rfl) 30 _ rfl gx 0 rfl AC _ (fun _ hS => (HKX.out _ hS).1) undCell rfl HACL.out.2) hHeld ?_
      try simp only [sX]
      refine wpAnyH_ready (rs:=[18]) (by kernel_rfl) (by simp) ?_
      refine AllReadyH.cons rfl (fun K hK => ?_) AllReadyH.nil
      go_simp
      refine (HGX.out _ hHeld).mono ?_
      rintro e _ ⟨A7,c7,rfl,hs7,hbl⟩
      try go_simp
      refine hK.out _ _ (hHeld.trans (hbl.mono hHeld.size)) (fun hHeld1 => ?_)
      have HS7:=Jh hs7
      clear hs7
      clear hK K hHeld hbl
      have hHeld:=hHeld1
      clear hHeld1
      try simp only [sX]
      refine wpAnyH_ready (rs:=[22]) (by kernel_rfl) (by simp) ?_
      refine AllReadyH.cons rfl (fun K hK => ?_) AllReadyH.nil
      go_simp
      refine (HRX.out _ hHeld).mono ?_
      rintro e _ ⟨A8,c8,rfl,hs8,hbl⟩
      try go_simp
      refine hK.out _ _ (hHeld.trans (hbl.mono hHeld.size)) (fun hHeld1 => ?_)
      have HS8:=Jh (And.intro (HS7.out.below hbl) (And.intro hs8 hbl.size))
      clear hs8 HS7
      clear hK K hHeld hbl
      have hHeld:=hHeld1
      clear hHeld1
      try simp only [sX]
      refine wpAnyH_ready (rs:=[23]) (by kernel_rfl) (by simp) ?_
      refine AllReadyH.cons rfl (fun K hK => ?_) AllReadyH.nil
      go_simp
      refine (HEX.out _ A7 c7 A8 c8 (HS8.out.1.more HS8.out.2.2) HS8.out.2.1).mono ?_
      rintro e _ ⟨rfl,hbl⟩
      try go_simp
      refine hK.out _ _ (hHeld.trans (hbl.mono hHeld.size)) (fun hHeld1 => ?_)
      clear hK K hHeld hbl
      have hHeld:=hHeld1
      clear hHeld1
      try simp only [sX]
      refine tkH (i:=24) (v:=.bool false) rfl hHeld ?_
      try simp only [sX]
      refine tkH (i:=25) (v:=.bool false) rfl hHeld ?_
      try simp only [sX]
      have HE:=Jh hHeld
      refine wpAnyH_done (by kernel_rfl) ?_ _
      clear hHeld
      have hFIN : ∀ wz,Below wa.heap.size wa wz → PlR W0 b1 ps M' M' (i + 1) A3 c3 hM kA kc kp (fun _ => False) wz:=fun wz hz => (HP6.out.below hz).drop
      have HFIN:=Jh (hFIN _ HE.out)
      have HCL:=Jh (HCLO.out _ HE.out)
      clear hFIN HSM HGK HRK HRX HEK HEX HKB HKX HCLO HP6
      by_cases hhalf : i = n / 2
      · have hdec : ((i : Int) == Int.tdiv (n : Int) 2) = true:=by simp; omega
        go_wp2_with (first | (go_at_call 21; refine HCL.out.mono ?_; rintro e w9 ⟨pk,rfl,hp9⟩; have HP9:=Jh hp9; clear hp9) | fail)
        go_roundw
        case measure => simp [intOf]; omega
        case rel =>
         have e1:=HPM.out
         exact ⟨i + 1,by omega,by go_num,A3,A3,n3,c3,n3,c3,some pk,rfl,rfl,rfl,Jh ⟨M',by rw [e1]; exact HP9.out.drop,by rw [e1]; exact HEN.out,HEN.out,by have:=HEN.out; have:=HM61.out; omega,fun h => by cases h⟩⟩
      · have hdec : ((i : Int) == Int.tdiv (n : Int) 2) = false:=by simp; omega
        go_wp2_with (fail)
        go_roundw
        case measure => simp [intOf]; omega
        case rel =>
         have e1:=HPM.out
         exact ⟨i + 1,by omega,by go_num,A3,kA,n3,c3,nH,kc,kp,rfl,rfl,rfl,Jh ⟨hM,by rw [e1]; exact HFIN.out,by rw [e1]; exact HEN.out,HH.out.2.1,HH.out.2.2.1,fun h => by have:=HH.out.2.2.2 h; omega⟩⟩
  · obtain rfl : i = n:=by omega
    obtain ⟨hM,hpl,enM,enH,hH60,hkp⟩:=hR.out
    have hfin : ∀ wz,Below wr.heap.size wr wz → Below w.heap.size w wz:=fun wz hz => by
     rw [← HB.out]
     obtain ⟨p1,p2⟩:=hpl.below_
     exact (HBL.out.1.trans (p1.mono HB1.out.2)).trans (hz.mono (by have:=HB1.out.2; omega))
    have HFI:=Jh hfin
    cases kp with
    | none =>
     have hn0 : i = 0:=by have:=hkp rfl; omega
     subst hn0
     have hsm : Calls Tryz.prog 15 #[.pointer (some ⟨ps,0,none⟩),.slice none 0 0] wr fun e w' => e = .returned (.int .i64 1) ∧ Below wr.heap.size wr w':=by
      obtain ⟨Z,h1,h2,h3,h4,h5,h6,h7⟩:=hpl
      exact same18Z_c (M:=[]) h1 (fun k hk => (h2 k hk).2) (by decide) (RowC.nil wr _ none 0 (by decide))
     have HSM:=Jh hsm
     clear hpl enM enH hH60 hkp hfin hsm
     go_wp2_with (first | (go_at_call 15; refine HSM.out.mono ?_; rintro e w9 ⟨rfl,hb9⟩; have HB9:=Jh hb9; clear hb9) | fail)
     first | go_ret | go_ret2
     exact ⟨rfl,HFI.out _ HB9.out⟩
    | some pk =>
     have hsk:=hpl.kept pk rfl (by omega)
     rw [← enH] at hsk
     have HSK:=Jh hsk
     have hsm : i = 0 → Calls Tryz.prog 15 #[.pointer (some ⟨ps,0,none⟩),.slice none 0 0] wr fun e w' => e = .returned (.int .i64 1) ∧ Below wr.heap.size wr w':=fun e0 => by
      subst e0
      obtain ⟨Z,h1,h2,h3,h4,h5,h6,h7⟩:=hpl
      exact same18Z_c (M:=[]) h1 (fun k hk => (h2 k hk).2) (by decide) (RowC.nil wr _ none 0 (by decide))
     have HSM:=Jh hsm
     clear hpl enM enH hH60 hkp hfin hsm hsk
     by_cases hn0 : i = 0
     · subst hn0
       go_wp2_with (first | (go_at_call_of 15 (Value.pointer (some ⟨ps,0,none⟩)); refine (HSM.out rfl).mono ?_; rintro e w9 ⟨rfl,hb9⟩; have HB9:=Jh hb9; clear hb9) | fail)
       first | go_ret | go_ret2
       exact ⟨rfl,HFI.out _ HB9.out⟩
     · have hi0 : ((i : Int) == 0) = false:=by simp; omega
       go_wp2_with (first | (go_at_call_of 15 (Value.pointer (some ⟨pk,0,none⟩)); refine HSK.out.mono ?_; rintro e w9 ⟨rfl,hb9⟩; have HB9:=Jh hb9; clear hb9) | fail)
       first | go_ret | go_ret2
       exact ⟨rfl,HFI.out _ HB9.out⟩
end Go.Proofs.YtelombedjkbckaaGreatDoor
