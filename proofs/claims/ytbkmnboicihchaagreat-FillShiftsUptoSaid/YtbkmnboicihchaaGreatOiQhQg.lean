/- Put of a store of cells: what may not be,what is empty; all cases,by zones. sheet.New,by zones. law 28's live: the ids of so many that aren't dead. -/
import Derived.Test.YtbkmnboicihchaaGreatOdXgOeOcXn
import Derived.Test.YtbkmnboicihchaaGreatIoIpSrQdQvGiCu
import Derived.Test.YtbkmnboicihchaaGreatGmQeQf
namespace Go.Proofs.YtbkmnboicihchaaGreat
set_option maxRecDepth 100000
set_option maxHeartbeats 4000000
set_option linter.unusedSimpArgs false
set_option linter.unusedVariables false
open Go Go.RowKit Go.Shelf Go.Maps
theorem put_emptyN (w : World) (p : Nat) (n : Nat) (D : DataW Value) (h : StAt w p none n D) (a : Ad) (ha : a.ok) (his : a.is = true) (x : Ct) (A : Option Addr) (c : Nat) (hx1 : x.k = 0) (hr : rightC x = true) (hv : x.v.ok) (hd : x.t.d.ok) (B : Nat) (hs : SlAt w B A c x.t.l) (hB : B ≤ w.heap.size) (hsz : x.t.size ≤ 1099511627776) :
   Calls Tryz.prog 17 #[.pointer (some ⟨p,0,none⟩),a.val,contV x A c] w fun e w' => e = .returned (.int .i64 0) ∧ Below w.heap.size w w':=by
 obtain ⟨ra,rn,ca,cn⟩:=a
 obtain ⟨W0,hW0⟩ : ∃ W0,W0 = (w.alloc (.cells #[.int .i64 ra,.int .i64 rn,.int .i64 ca,.int .i64 cn] 36)).alloc (.cells (contA x A c) 68):=⟨_,rfl⟩
 have hbel : Below w.heap.size w W0:=by rw [hW0]; exact ((Below.refl _ w).alloc (Nat.le_refl _) _).alloc (by simp) _
 have hz0 : W0.heap.size = w.heap.size + 2:=by rw [hW0]; simp
 have hk0 : W0.heap[w.heap.size]? = some (.cells #[.int .i64 ra,.int .i64 rn,.int .i64 ca,.int .i64 cn] 36):=by rw [hW0]; exact (heapOld _ _ _ (by simp)).trans (heap_alloc_new _ _)
 have hk1 : W0.heap[w.heap.size + 1]? = some (.cells (contA x A c) 68):=by
   rw [hW0]
   have:=heap_alloc_new (w.alloc (.cells #[.int .i64 ra,.int .i64 rn,.int .i64 ca,.int .i64 cn] 36)) (.cells (contA x A c) 68)
   rwa [World.size_alloc] at this
 have hpl : p < w.heap.size:=(Array.getElem?_eq_some_iff.1 h.1).1
 have hst : ∀ wx,Below W0.heap.size W0 wx → StAt wx p none n D:=fun wx hx => (h.below hbel).below hx
 have hI : ∀ wx,Calls Tryz.prog 42 #[.agg #[.int .i64 ra,.int .i64 rn,.int .i64 ca,.int .i64 cn]] wx fun e w' => e = .returned (.bool true) ∧ Below wx.heap.size wx w':=fun wx => by have:=isCell_c ra rn ca cn wx; rw [show isCellB ra rn ca cn = true from his] at this; exact this
 have hR : ∀ wx,Below W0.heap.size W0 wx → Calls Tryz.prog 43 #[contV x A c] wx fun e w' => e = .returned (.bool true) ∧ Below wx.heap.size wx w':=fun wx hx => by
   have:=cright_c x wx B A c hv hd ((hs.below (hbel.mono hB)).below (hx.mono (by omega))) (by have:=hx.size; omega) hsz
   rwa [hr] at this
 have hkk : ∀ wx,Below W0.heap.size W0 wx → wx.cell? ⟨w.heap.size + 1,0,none⟩ = some (.int .i64 0):=fun wx hx => by rw [← hx1]; exact (cont_row ((hx.block (w.heap.size + 1) (by omega)).trans hk1)).1
 have hka : ∀ wx,Below W0.heap.size W0 wx → wx.heap[w.heap.size + 1]? = some (.cells (contA x A c) 68):=fun wx hx => (hx.block (w.heap.size + 1) (by omega)).trans hk1
 have hkb : ∀ wx,Below W0.heap.size W0 wx → wx.heap[w.heap.size]? = some (.cells #[.int .i64 ra,.int .i64 rn,.int .i64 ca,.int .i64 cn] 36):=fun wx hx => (hx.block w.heap.size (by omega)).trans hk0
 have hix : (Tryz.prog.info? 68).map (·.size) = some (contA x A c).size:=infC
 rw [contV] at hR
 obtain ⟨CA,hCA⟩ : ∃ C,C = contA x A c:=⟨_,rfl⟩
 obtain ⟨b,hb⟩ : ∃ b,b = w.heap.size:=⟨_,rfl⟩
 rw [show contV x A c = .agg CA by rw [hCA]]
 simp only [← hCA] at hka hR hix hW0
 have hil : (Tryz.prog.info? 68).map (·.size) = some CA.toList.length:=by rw [Array.length_toList]; exact hix
 rw [← hb] at hka hkb hkk hpl hz0
 simp only [Ad.val]
 have HW0:=Lib.hid hW0
 have HST:=Lib.hid hst
 have HI:=Lib.hid hI
 have HR:=Lib.hid hR
 have HKK:=Lib.hid hkk
 have HKA:=Lib.hid hka
 have HKB:=Lib.hid hkb
 have HIX:=Lib.hid hix
 have HIL:=Lib.hid hil
 have HA:=Lib.hid ha
 have HB:=Lib.hid hb
 have HBEL:=Lib.hid hbel
 have HPL:=Lib.hid hpl
 have HZ:=Lib.hid hz0
 clear hW0 hst hI hR hkk hka hkb hix hil ha hb hbel hk0 hk1 hCA hs hd hv hr hx1 h his hsz hpl hz0 hB
 have hb00 : Below W0.heap.size W0 W0:=Below.refl _ _
 have hrgb : ∀ wx,Below W0.heap.size W0 wx → wx.rangeAt b 0 [.int .i64 ra,.int .i64 rn,.int .i64 ca,.int .i64 cn]:=fun wx hx => ad_range (HKB.out wx hx)
 have HRGB:=Lib.hid hrgb
 clear hrgb
 go_enter Tryz.func17,Tryz.ntmps17
 go_upto_region 1 with (fail)
 rw [← HW0.out,← HB.out]
 go_wp2_with (first | (refine wpList_mid rfl 36 _ rfl b 0 rfl _ _ (HRGB.out _ hb00) undCell rfl infCell ?_) | (go_at_call 42; refine (HI.out W0).mono ?_; rintro e w1 ⟨rfl,hb1⟩) | (refine wpList_row rfl 68 _ rfl (b + 1) rfl 68 CA (0,0) _ (HKA.out _ hb1) undC rfl HIX.out ?_) | (go_at_call 43; refine (HR.out _ hb1).mono ?_; rintro e w2 ⟨rfl,hbr⟩; have hb2:=hb1.trans (hbr.mono hb1.size); have hkc:=HKK.out _ hb2))
 clear hb1 hbr hb00 hkc
 have hst2:=HST.out w2 hb2
 have hc2 : w2.cell? ⟨p,0,none⟩ = some (.map none):=cell_of_row _ _ 0 _ _ _ hst2.1
 have hrg:=HRGB.out w2 hb2
 have HRG:=Lib.hid hrg
 have hdl : ∀ (wx : World) (ty : TypeId),(Builtin.delete_ #[108,36] ty #[.map none,.agg #[.int .i64 ra,.int .i64 rn,.int .i64 ca,.int .i64 cn]]).run Tryz.prog wx = .ok (.tuple #[]) wx:=fun wx ty => Maps.drop_nil (w:=wx) cell_law undMp (key_eq ⟨ra,rn,ca,cn⟩ HA.out) ty
 clear hst2 hrg
 refine wp_region_still_tail 5 (by kernel_rfl) (by kernel_rfl) ?_
 simp only [List.take_succ_cons,List.take_zero,List.drop_succ_cons,List.drop_zero]
 iterate 4 still_step
 refine still_mid rfl 36 _ rfl b 0 rfl [.int .i64 ra,.int .i64 rn,.int .i64 ca,.int .i64 cn] _ HRG.out undCell rfl infCell ?_
 (try simp only [Act.put,List.setIfInBounds_toArray,List.set_cons_zero,List.set_cons_succ])
 refine wpStill_nil ?_
 change wpList _ _ _ _ _ w2.drew
 go_wp2
 first | go_ret | go_ret2
 exact ⟨rfl,(HBEL.out.trans (hb2.mono HBEL.out.size)).drew⟩
theorem put_nocell (w : World) (p : Nat) (m : Option Nat) (n : Nat) (D : DataW Value) (h : StAt w p m n D) (a : Ad) (ha : a.ok) (his : a.is = false) (x : Ct) (A : Option Addr) (c : Nat) (hv : x.v.ok) (hd : x.t.d.ok) (B : Nat) (hs : SlAt w B A c x.t.l) (hB : B ≤ w.heap.size) (hsz : x.t.size ≤ 1099511627776) :
   Calls Tryz.prog 17 #[.pointer (some ⟨p,0,none⟩),a.val,contV x A c] w fun e w' => e = .returned (.int .i64 1) ∧ Below w.heap.size w w':=by
 obtain ⟨ra,rn,ca,cn⟩:=a
 obtain ⟨W0,hW0⟩ : ∃ W0,W0 = (w.alloc (.cells #[.int .i64 ra,.int .i64 rn,.int .i64 ca,.int .i64 cn] 36)).alloc (.cells (contA x A c) 68):=⟨_,rfl⟩
 have hbel : Below w.heap.size w W0:=by rw [hW0]; exact ((Below.refl _ w).alloc (Nat.le_refl _) _).alloc (by simp) _
 have hz0 : W0.heap.size = w.heap.size + 2:=by rw [hW0]; simp
 have hk0 : W0.heap[w.heap.size]? = some (.cells #[.int .i64 ra,.int .i64 rn,.int .i64 ca,.int .i64 cn] 36):=by rw [hW0]; exact (heapOld _ _ _ (by simp)).trans (heap_alloc_new _ _)
 have hk1 : W0.heap[w.heap.size + 1]? = some (.cells (contA x A c) 68):=by
   rw [hW0]
   have:=heap_alloc_new (w.alloc (.cells #[.int .i64 ra,.int .i64 rn,.int .i64 ca,.int .i64 cn] 36)) (.cells (contA x A c) 68)
   rwa [World.size_alloc] at this
 have hpl : p < w.heap.size:=(Array.getElem?_eq_some_iff.1 h.1).1
 have hst : ∀ wx,Below W0.heap.size W0 wx → StAt wx p m n D:=fun wx hx => (h.below hbel).below hx
 have hI : ∀ wx,Calls Tryz.prog 42 #[.agg #[.int .i64 ra,.int .i64 rn,.int .i64 ca,.int .i64 cn]] wx fun e w' => e = .returned (.bool false) ∧ Below wx.heap.size wx w':=fun wx => by have:=isCell_c ra rn ca cn wx; rw [show isCellB ra rn ca cn = false from his] at this; exact this
 have hka : ∀ wx,Below W0.heap.size W0 wx → wx.heap[w.heap.size + 1]? = some (.cells (contA x A c) 68):=fun wx hx => (hx.block (w.heap.size + 1) (by omega)).trans hk1
 have hkb : ∀ wx,Below W0.heap.size W0 wx → wx.heap[w.heap.size]? = some (.cells #[.int .i64 ra,.int .i64 rn,.int .i64 ca,.int .i64 cn] 36):=fun wx hx => (hx.block w.heap.size (by omega)).trans hk0
 have hix : (Tryz.prog.info? 68).map (·.size) = some (contA x A c).size:=infC
 obtain ⟨CA,hCA⟩ : ∃ C,C = contA x A c:=⟨_,rfl⟩
 obtain ⟨b,hb⟩ : ∃ b,b = w.heap.size:=⟨_,rfl⟩
 rw [show contV x A c = .agg CA by rw [hCA]]
 simp only [← hCA] at hka hix hW0
 have hil : (Tryz.prog.info? 68).map (·.size) = some CA.toList.length:=by rw [Array.length_toList]; exact hix
 rw [← hb] at hka hkb hpl hz0
 simp only [Ad.val]
 have HW0:=Lib.hid hW0
 have HST:=Lib.hid hst
 have HI:=Lib.hid hI
 have HKA:=Lib.hid hka
 have HKB:=Lib.hid hkb
 have HIX:=Lib.hid hix
 have HIL:=Lib.hid hil
 have HA:=Lib.hid ha
 have HB:=Lib.hid hb
 have HBEL:=Lib.hid hbel
 have HPL:=Lib.hid hpl
 have HZ:=Lib.hid hz0
 clear hW0 hst hI hka hkb hix hil ha hb hbel hk0 hk1 hCA hs hd hv h his hsz hpl hz0 hB
 have hb00 : Below W0.heap.size W0 W0:=Below.refl _ _
 have hrgb : ∀ wx,Below W0.heap.size W0 wx → wx.rangeAt b 0 [.int .i64 ra,.int .i64 rn,.int .i64 ca,.int .i64 cn]:=fun wx hx => ad_range (HKB.out wx hx)
 have HRGB:=Lib.hid hrgb
 clear hrgb
 go_enter Tryz.func17,Tryz.ntmps17
 go_upto_region 1 with (fail)
 rw [← HW0.out,← HB.out]
 go_wp2_with (first | (refine wpList_mid rfl 36 _ rfl b 0 rfl _ _ (HRGB.out _ hb00) undCell rfl infCell ?_) | (go_at_call 42; refine (HI.out W0).mono ?_; rintro e w1 ⟨rfl,hb1⟩))
 first | go_ret | go_ret2
 exact ⟨rfl,HBEL.out.trans (hb1.mono HBEL.out.size)⟩
theorem put_wrong (w : World) (p : Nat) (m : Option Nat) (n : Nat) (D : DataW Value) (h : StAt w p m n D) (a : Ad) (ha : a.ok) (his : a.is = true) (x : Ct) (A : Option Addr) (c : Nat) (hr : rightC x = false) (hv : x.v.ok) (hd : x.t.d.ok) (B : Nat) (hs : SlAt w B A c x.t.l) (hB : B ≤ w.heap.size) (hsz : x.t.size ≤ 1099511627776) :
   Calls Tryz.prog 17 #[.pointer (some ⟨p,0,none⟩),a.val,contV x A c] w fun e w' => e = .returned (.int .i64 6) ∧ Below w.heap.size w w':=by
 obtain ⟨ra,rn,ca,cn⟩:=a
 obtain ⟨W0,hW0⟩ : ∃ W0,W0 = (w.alloc (.cells #[.int .i64 ra,.int .i64 rn,.int .i64 ca,.int .i64 cn] 36)).alloc (.cells (contA x A c) 68):=⟨_,rfl⟩
 have hbel : Below w.heap.size w W0:=by rw [hW0]; exact ((Below.refl _ w).alloc (Nat.le_refl _) _).alloc (by simp) _
 have hz0 : W0.heap.size = w.heap.size + 2:=by rw [hW0]; simp
 have hk0 : W0.heap[w.heap.size]? = some (.cells #[.int .i64 ra,.int .i64 rn,.int .i64 ca,.int .i64 cn] 36):=by rw [hW0]; exact (heapOld _ _ _ (by simp)).trans (heap_alloc_new _ _)
 have hk1 : W0.heap[w.heap.size + 1]? = some (.cells (contA x A c) 68):=by
   rw [hW0]
   have:=heap_alloc_new (w.alloc (.cells #[.int .i64 ra,.int .i64 rn,.int .i64 ca,.int .i64 cn] 36)) (.cells (contA x A c) 68)
   rwa [World.size_alloc] at this
 have hpl : p < w.heap.size:=(Array.getElem?_eq_some_iff.1 h.1).1
 have hst : ∀ wx,Below W0.heap.size W0 wx → StAt wx p m n D:=fun wx hx => (h.below hbel).below hx
 have hI : ∀ wx,Calls Tryz.prog 42 #[.agg #[.int .i64 ra,.int .i64 rn,.int .i64 ca,.int .i64 cn]] wx fun e w' => e = .returned (.bool true) ∧ Below wx.heap.size wx w':=fun wx => by have:=isCell_c ra rn ca cn wx; rw [show isCellB ra rn ca cn = true from his] at this; exact this
 have hR : ∀ wx,Below W0.heap.size W0 wx → Calls Tryz.prog 43 #[contV x A c] wx fun e w' => e = .returned (.bool false) ∧ Below wx.heap.size wx w':=fun wx hx => by
   have:=cright_c x wx B A c hv hd ((hs.below (hbel.mono hB)).below (hx.mono (by omega))) (by have:=hx.size; omega) hsz
   rwa [hr] at this
 have hka : ∀ wx,Below W0.heap.size W0 wx → wx.heap[w.heap.size + 1]? = some (.cells (contA x A c) 68):=fun wx hx => (hx.block (w.heap.size + 1) (by omega)).trans hk1
 have hkb : ∀ wx,Below W0.heap.size W0 wx → wx.heap[w.heap.size]? = some (.cells #[.int .i64 ra,.int .i64 rn,.int .i64 ca,.int .i64 cn] 36):=fun wx hx => (hx.block w.heap.size (by omega)).trans hk0
 have hix : (Tryz.prog.info? 68).map (·.size) = some (contA x A c).size:=infC
 rw [contV] at hR
 obtain ⟨CA,hCA⟩ : ∃ C,C = contA x A c:=⟨_,rfl⟩
 obtain ⟨b,hb⟩ : ∃ b,b = w.heap.size:=⟨_,rfl⟩
 rw [show contV x A c = .agg CA by rw [hCA]]
 simp only [← hCA] at hka hR hix hW0
 have hil : (Tryz.prog.info? 68).map (·.size) = some CA.toList.length:=by rw [Array.length_toList]; exact hix
 rw [← hb] at hka hkb hpl hz0
 simp only [Ad.val]
 have HW0:=Lib.hid hW0
 have HST:=Lib.hid hst
 have HI:=Lib.hid hI
 have HR:=Lib.hid hR
 have HKA:=Lib.hid hka
 have HKB:=Lib.hid hkb
 have HIX:=Lib.hid hix
 have HIL:=Lib.hid hil
 have HA:=Lib.hid ha
 have HB:=Lib.hid hb
 have HBEL:=Lib.hid hbel
 have HPL:=Lib.hid hpl
 have HZ:=Lib.hid hz0
 clear hW0 hst hI hR hka hkb hix hil ha hb hbel hk0 hk1 hCA hs hd hv hr h his hsz hpl hz0 hB
 have hb00 : Below W0.heap.size W0 W0:=Below.refl _ _
 have hrgb : ∀ wx,Below W0.heap.size W0 wx → wx.rangeAt b 0 [.int .i64 ra,.int .i64 rn,.int .i64 ca,.int .i64 cn]:=fun wx hx => ad_range (HKB.out wx hx)
 have HRGB:=Lib.hid hrgb
 clear hrgb
 go_enter Tryz.func17,Tryz.ntmps17
 go_upto_region 1 with (fail)
 rw [← HW0.out,← HB.out]
 go_wp2_with (first | (refine wpList_mid rfl 36 _ rfl b 0 rfl _ _ (HRGB.out _ hb00) undCell rfl infCell ?_) | (go_at_call 42; refine (HI.out W0).mono ?_; rintro e w1 ⟨rfl,hb1⟩) | (refine wpList_row rfl 68 _ rfl (b + 1) rfl 68 CA (0,0) _ (HKA.out _ hb1) undC rfl HIX.out ?_) | (go_at_call 43; refine (HR.out _ hb1).mono ?_; rintro e w2 ⟨rfl,hbr⟩; have hb2:=hb1.trans (hbr.mono hb1.size)))
 first | go_ret | go_ret2
 exact ⟨rfl,HBEL.out.trans (hb2.mono HBEL.out.size)⟩
def putR (M : List (Ad × Ct)) (a : Ad) (x : Ct) : List (Ad × Ct) × Int :=
 if a.is = false then (M,1) else if rightC x = false then (M,6) else if x.k = 0 then (M.filter fun e => e.1 ≠ a,0) else (putA a x false M,0)
def StZ (W : World) (p n : Nat) (M : List (Ad × Ct)) (Z : Nat → Prop) : Prop :=
 ∃ m D T,StAt W p m n D ∧ Rep W T D M ∧ Z p ∧ (∀ b,m = some b → Z b) ∧ ∀ b,T b → Z b ∧ b ≠ p ∧ m ≠ some b ∧ b < W.heap.size
theorem StZ.keep {W W' : World} {p n : Nat} {M : List (Ad × Ct)} {Z Z' : Nat → Prop} (h : StZ W p n M Z) (hk : KeepZ Z' W W') (hd : ∀ k,Z k → ¬ Z' k) : StZ W' p n M Z:=by
 obtain ⟨m,D,T,⟨h1,h2⟩,h3,h4,h5,h6⟩:=h
 refine ⟨m,D,T,⟨(hk.block p (Array.getElem?_eq_some_iff.1 h1).1 (hd p h4)).trans h1,?_⟩,h3.keep (fun _ h => h) (fun b hb => hk.block b (h6 b hb).2.2.2 (hd b (h6 b hb).1)),h4,h5,fun b hb => ⟨(h6 b hb).1,(h6 b hb).2.1,(h6 b hb).2.2.1,Nat.lt_of_lt_of_le (h6 b hb).2.2.2 hk.size⟩⟩
 cases m with
 | none => exact h2
 | some g =>
   obtain ⟨es,clock,e1,e2⟩:=h2
   exact ⟨es,clock,(hk.block g (Array.getElem?_eq_some_iff.1 e1).1 (hd g (h5 g rfl))).trans e1,e2⟩
theorem StZ.below {W W' : World} {p n : Nat} {M : List (Ad × Ct)} {Z : Nat → Prop} (h : StZ W p n M Z) (hb : Below W.heap.size W W') : StZ W' p n M Z:=h.keep (Z':=fun _ => False) (KeepZ.of hb) (fun _ _ h => h)
theorem StZ.zone {W : World} {p n : Nat} {M : List (Ad × Ct)} {Z Z' : Nat → Prop} (h : StZ W p n M Z) (hz : ∀ b,Z b → Z' b) : StZ W p n M Z':=by
 obtain ⟨m,D,T,h1,h3,h4,h5,h6⟩:=h
 exact ⟨m,D,T,h1,h3,hz _ h4,fun b e => hz b (h5 b e),fun b hb => ⟨hz b (h6 b hb).1,(h6 b hb).2⟩⟩
theorem StZ.more {W : World} {p n n' : Nat} {M : List (Ad × Ct)} {Z : Nat → Prop} (h : StZ W p n M Z) (hn : n ≤ n') : StZ W p n' M Z:=by
 obtain ⟨m,D,T,⟨h1,h2⟩,h3,h4⟩:=h
 refine ⟨m,D,T,⟨h1,?_⟩,h3,h4⟩
 cases m with
 | none => exact h2
 | some g => exact World.ownsMap.mono h2 hn
theorem putZ_c {w : World} {p n : Nat} {M : List (Ad × Ct)} {Z : Nat → Prop} (h : StZ w p n M Z) (hn : n < 100000) (hM : M.length < 10000) (a : Ad) (ha : a.ok) (x : Ct) (A : Option Addr) (c : Nat) (hv : x.v.ok) (hd : x.t.d.ok) (hs : SlAt w w.heap.size A c x.t.l) (hsz : x.t.size ≤ 1048576) :
   Calls Tryz.prog 17 #[.pointer (some ⟨p,0,none⟩),a.val,contV x A c] w fun e w' => e = .returned (.int .i64 (putR M a x).2) ∧ StZ w' p (n + 1) (putR M a x).1 (fun b => Z b ∨ (w.heap.size ≤ b ∧ b < w'.heap.size)) ∧ KeepZ Z w w':=by
 obtain ⟨m,D,T,hst,hrep,hp,hmz,hT⟩:=h
 have hold : ∀ w',Below w.heap.size w w' → StZ w' p (n + 1) M (fun b => Z b ∨ (w.heap.size ≤ b ∧ b < w'.heap.size)) ∧ KeepZ Z w w':=fun w' hb =>
   ⟨((StZ.below ⟨m,D,T,hst,hrep,hp,hmz,hT⟩ hb).zone (fun b h => .inl h)).more (by omega),KeepZ.of hb⟩
 have hkz : ∀ w',KeepP p m w w' → KeepZ Z w w':=fun w' hk => ⟨hk.os,hk.tape,hk.output,hk.size,fun k h1 h2 => hk.block k h1 (fun e => h2 (e ▸ hp)) (fun e => h2 (hmz k e))⟩
 have hTk : ∀ w',KeepP p m w w' → ∀ b,T b → w'.heap[b]? = w.heap[b]?:=fun w' hk b hb => hk.block b (hT b hb).2.2.2 (hT b hb).2.1 (hT b hb).2.2.1
 unfold putR
 by_cases his : a.is = false
 · rw [if_pos his]
   refine (put_nocell w p m n D hst a ha his x A c hv hd w.heap.size hs (Nat.le_refl _) (by omega)).mono ?_
   rintro e w' ⟨rfl,hb⟩
   exact ⟨rfl,hold w' hb⟩
 rw [if_neg his]
 have his' : a.is = true:=by simpa using his
 by_cases hr : rightC x = false
 · rw [if_pos hr]
   refine (put_wrong w p m n D hst a ha his' x A c hr hv hd w.heap.size hs (Nat.le_refl _) (by omega)).mono ?_
   rintro e w' ⟨rfl,hb⟩
   exact ⟨rfl,hold w' hb⟩
 rw [if_neg hr]
 have hr' : rightC x = true:=by simpa using hr
 by_cases hk : x.k = 0
 · rw [if_pos hk]
   cases m with
   | none =>
     have hM0 : M = []:=by
       have hD : D = .map []:=hst.2
       have h1:=hrep.size
       rw [hD] at h1
       have h2 : Maps.size (DataW.map [] : DataW Value) = 0:=rfl
       exact List.length_eq_zero_iff.1 (by omega)
     refine (put_emptyN w p n D hst a ha his' x A c hk hr' hv hd w.heap.size hs (Nat.le_refl _) (by omega)).mono ?_
     rintro e w' ⟨rfl,hb⟩
     have h1:=hold w' hb
     rw [hM0] at h1 ⊢
     exact ⟨rfl,h1⟩
   | some g =>
     refine (put_empty w p g n D hst a ha his' x A c hk hr' hv hd w.heap.size hs (Nat.le_refl _) (by omega)).mono ?_
     rintro e w' ⟨rfl,hst',hkp⟩
     refine ⟨rfl,StZ.more ⟨some g,D.del a.key,T,hst',hrep.del (fun _ h => h) (hTk w' hkp) ha,.inl hp,fun b e => .inl (hmz b e),fun b hb => ⟨.inl (hT b hb).1,(hT b hb).2.1,(hT b hb).2.2.1,Nat.lt_of_lt_of_le (hT b hb).2.2.2 hkp.size⟩⟩ (by omega),hkz w' hkp⟩
 rw [if_neg hk]
 have hfit : x.fit:=⟨hv,hd,hsz,hr',hk⟩
 have hcp:=right_cp hfit
 have hpl : p < w.heap.size:=(Array.getElem?_eq_some_iff.1 hst.1).1
 cases m with
 | none =>
   refine (put_noneC w p n D hst a ha his' x A c hk hr' hv hd w.heap.size hs (Nat.le_refl _) hsz).mono ?_
   rintro e w' ⟨rfl,g,A2,c2,hg1,hg2,hst',hsl,hkp⟩
   rw [hcp] at hst' hsl
   have hD : D = .map []:=hst.2
   refine ⟨rfl,StZ.more ⟨some g,_,fun b => T b ∨ (w.heap.size ≤ b ∧ b < w'.heap.size ∧ b ≠ g),hst',hrep.put (fun _ h => .inl h) (hTk w' hkp) ha hfit (hsl.keep (fun b _ h => .inr h) (fun _ _ _ _ _ => rfl)),.inl hp,fun b e => ?_,fun b hb => ?_⟩ (by omega),hkz w' hkp⟩
   · obtain rfl:=Option.some.inj e
     exact .inr ⟨hg1,hg2⟩
   · rcases hb with hb | ⟨h1,h2,h3⟩
     · have:=(hT b hb).2.2.2
       exact ⟨.inl (hT b hb).1,(hT b hb).2.1,fun e => by have:=Option.some.inj e; omega,Nat.lt_of_lt_of_le this hkp.size⟩
     · exact ⟨.inr ⟨h1,h2⟩,by omega,fun e => h3 (Option.some.inj e).symm,h2⟩
 | some g =>
   have hgl : g < w.heap.size:=by have : w.ownsMap Tryz.prog 36 heldR g n D:=hst.2; exact this.lt
   refine (put_someC w p g n D hst (by omega) a ha his' x A c hk hr' hv hd w.heap.size hs (Nat.le_refl _) hsz _ rfl (.inr (by rw [hrep.size]; exact hM))).mono ?_
   rintro e w' ⟨rfl,A2,c2,hst',hsl,hkp⟩
   rw [hcp] at hst' hsl
   refine ⟨rfl,⟨some g,_,fun b => T b ∨ (w.heap.size ≤ b ∧ b < w'.heap.size),hst',hrep.put (fun _ h => .inl h) (hTk w' hkp) ha hfit (hsl.keep (fun b _ h => .inr h) (fun _ _ _ _ _ => rfl)),.inl hp,fun b e => .inl (hmz b e),fun b hb => ?_⟩,hkz w' hkp⟩
   rcases hb with hb | ⟨h1,h2⟩
   · exact ⟨.inl (hT b hb).1,(hT b hb).2.1,(hT b hb).2.2.1,Nat.lt_of_lt_of_le (hT b hb).2.2.2 hkp.size⟩
   · exact ⟨.inr ⟨h1,h2⟩,by omega,fun e => by have:=Option.some.inj e; omega,h2⟩
end Go.Proofs.YtbkmnboicihchaaGreat
namespace Go.Proofs.YtbkmnboicihchaaGreat
set_option maxRecDepth 100000
set_option maxHeartbeats 4000000
set_option linter.unusedSimpArgs false
set_option linter.unusedVariables false
open Go Go.RowKit Go.Shelf Go.Maps
theorem ZAx.zone {W : World} {p : Nat} {L : IL} {Z Z' : Nat → Prop} (h : ZAx W p L Z) (hz : ∀ b,Z b → Z' b) : ZAx W p L Z':=by
 obtain ⟨Ai,ci,Al,cl,h,hp,hi,hl⟩:=h
 exact ⟨Ai,ci,Al,cl,h,hz _ hp,fun k e => hz k (hi k e),fun k e => hz k (hl k e)⟩
theorem RNew.axZ {w wr : World} {p : Nat} {l : List Ik} (h : RNew w p l l.length wr) : ZAx wr p (allL l) (fun b => p ≤ b ∧ b < wr.heap.size) ∧ Below p w wr:=by
 obtain ⟨Ai,ci,Al,cl,h1,h2,h3,-,hb,-⟩:=h
 have e1 : (allL l).length = l.length:=by simp [allL]
 rw [List.take_length] at h2
 refine ⟨⟨Ai,ci,Al,cl,⟨?_,?_,?_⟩,⟨Nat.le_refl _,(Array.getElem?_eq_some_iff.1 h1).1⟩,fun k e => ?_,fun k e => ?_⟩,hb⟩
 · rw [e1]; exact h1
 · rw [e1,allL_ids]; exact own_base0 h2
 · have e2 : (allL l).lives = List.replicate l.length (.bool true):=by
     unfold allL IL.lives
     rw [List.map_map,← List.map_const]
     rfl
   rw [e1,e2]; exact own_base0 h3
 · rw [e1] at e
   obtain ⟨h4,cur,h5⟩:=own_blk h2 k e
   exact ⟨by omega,(Array.getElem?_eq_some_iff.1 h5).1⟩
 · rw [e1] at e
   obtain ⟨h4,cur,h5⟩:=own_blk h3 k e
   exact ⟨by omega,(Array.getElem?_eq_some_iff.1 h5).1⟩
structure ShZ (W : World) (lo s p q ce na n : Nat) (L M : IL) (C : List (Ad × Ct)) (Zr Zc Zs : Nat → Prop) : Prop where
 own : W.heap[s]? = some (.cells #[.pointer (some ⟨p,0,none⟩),.pointer (some ⟨q,0,none⟩),.pointer (some ⟨ce,0,none⟩),.pointer (some ⟨na,0,none⟩)] 54)
 rows : ZAx W p L Zr
 cols : ZAx W q M Zc
 cells : StZ W ce n C Zs
 names : W.heap[na]? = some (.cells #[.map none] 125)
 los : lo ≤ s
 loz : ∀ b,Zr b ∨ Zc b ∨ Zs b → lo ≤ b
 sn : ¬ Zr s ∧ ¬ Zc s ∧ ¬ Zs s
 dis : ∀ b,(Zr b → ¬ Zc b ∧ ¬ Zs b) ∧ (Zc b → ¬ Zs b)
 lt : (∀ b,Zr b ∨ Zc b ∨ b = s ∨ b = na → b < W.heap.size) ∧ (¬ Zr na ∧ ¬ Zc na ∧ ¬ Zs na) ∧ lo ≤ na
theorem freshZ_c (w : World) (n : Nat) (hn : n ≤ 1000) : Calls Tryz.prog 30 #[.int .i64 n] w fun e w' => ∃ p,e = .returned (.pointer (some ⟨p,0,none⟩)) ∧ ZAx w' p (allL (freshL n)) (fun b => w.heap.size ≤ b ∧ b < w'.heap.size) ∧ Below w.heap.size w w':=by
 have hnew:=fun (w : World) (A : Option Addr) (c : Nat) (hs : IkSl w w.heap.size A c (freshL n)) => axNew_c w (freshL n) (freshL_ok hn) (freshL_nz n) (freshL_nodup n) (by rw [freshL_len]; exact hn) A c hs
 have HNEW:=Lib.hid hnew
 obtain ⟨ti,hti,hz0,hz1,hz2⟩:=info_parts infoIk
 have HTI:=Lib.hid (And.intro hti (And.intro hz0 (And.intro hz1 hz2)))
 clear hnew hti hz0 hz1 hz2
 have q1 : ¬ (n : Int) < 0:=by omega
 have q2 : ¬ (1000 : Int) < n:=by omega
 have q3 : (0 : Int) ≤ n:=by omega
 have q4 : (n : Int) ≤ 1000:=by omega
 go_enter Tryz.func30,Tryz.ntmps30
 go_wp2
 clear q1 q2 q3 q4
 go_loopw [3,4,8] (fun s v i wr => ∃ j : Nat,j ≤ n ∧ i = .int .i64 j ∧ ∃ A c,s = .slice A j c ∧ Hid (wr.ownsRow w.heap.size 27 2 (.slice A j c) j (ikCells (freshL j)) ∧ Below w.heap.size w wr)) (fun _ _ i _ => n - (intOf i).toNat)
 case atStart => exact ⟨0,Nat.zero_le _,rfl,none,0,rfl,Lib.hid ⟨⟨rfl,.inl ⟨rfl,rfl⟩⟩,Below.refl _ _⟩⟩
 case round =>
   obtain ⟨j,hj,rfl,A,c,rfl,hR⟩:=hrel
   by_cases hlt : j < n
   · have hj1 : (j : Int) < n:=by omega
     have hcc : j ≤ c ∧ c ≤ 9223372036854775807:=by obtain ⟨_,_,e,h1,h2⟩:=own_parts hR.out.1; cases e; exact ⟨h1,h2⟩
     obtain ⟨hc1,hc2⟩:=hcc
     have hw : wrap64 ((j : Int) + 1) = (j : Int) + 1:=by unfold wrap64; omega
     have hj0 : (0 : Int) ≤ j:=by omega
     go_wp2_with (at_builtin; refine wpList_append_lies _ rfl (.tmp 11) (.tmp 15) 44 rfl w.heap.size 27 ti _ 2 16 undIks HTI.out.1 HTI.out.2.1 HTI.out.2.2.1 HTI.out.2.2.2 rfl (by decide) (.slice A j c) j (ikCells (freshL j)) rfl (hR.out.1.alloc _) ⟨wr.heap.size,0,none⟩ 1 1 [.int .i64 0,.int .i64 ((j : Int) + 1)] rfl rfl (World.news_of_block (heap_alloc_new wr (.cells #[.int .i64 0,.int .i64 ((j : Int) + 1)] 27))) (by intro u hu; simp only [List.mem_cons,List.not_mem_nil,or_false] at hu; rcases hu with rfl | rfl <;> rfl) (by decide) (by unfold maxLen; omega) (by omega) (by rw [World.size_alloc]; have:=hR.out.2.size; omega) (wr.heap.size + 1) (by rw [World.size_alloc]) ?_; intro g3 cap3 w4 hown4 hgrow hat hlt4; have HO4:=Lib.hid hown4; have HG4:=Lib.hid hgrow; clear hown4 hgrow hat hlt4)
     go_roundw
     case measure => simp [intOf]; omega
     case rel =>
       refine ⟨j + 1,by omega,by go_num,some ⟨g3,0,none⟩,cap3,rfl,Lib.hid ⟨?_,?_⟩⟩
       · rw [freshL_succ,ikCells_snoc]
         exact HO4.out
       · have hb:=hR.out.2
         exact (hb.alloc hb.size _).grown HG4.out (by rw [World.size_alloc]; have:=hb.size; omega) (fun k e => (hR.out.1.lt k e).1)
   · obtain rfl : j = n:=by omega
     have HX:=Lib.hid (HNEW.out wr A c (IkSl.of (base:=w.heap.size) (by rw [freshL_len]; exact hR.out.1)))
     have hlen:=freshL_len j
     rw [hlen] at HX
     go_wp2_with (go_at_call 10; refine HX.out.mono ?_; rintro e w5 ⟨rfl,hN5⟩; have HN5:=Lib.hid hN5; clear hN5)
     first | go_ret | go_ret2
     have hx:=RNew.axZ (l:=freshL j) (by rw [hlen]; exact HN5.out)
     have hb:=hR.out.2
     exact ⟨wr.heap.size,rfl,hx.1.zone (fun b h => ⟨Nat.le_trans hb.size h.1,h.2⟩),hb.trans (hx.2.mono hb.size)⟩
theorem sheetNewZ_c (w : World) (n m : Nat) (hn : n ≤ 1000) (hm : m ≤ 1000) : Calls Tryz.prog 13 #[.int .i64 n,.int .i64 m] w fun e w' => ∃ s p q ce na Zr Zc Zs,e = .returned (.pointer (some ⟨s,0,none⟩)) ∧ ShZ w' w.heap.size s p q ce na 0 (allL (freshL n)) (allL (freshL m)) [] Zr Zc Zs ∧ Below w.heap.size w w':=by
 have HF1:=Lib.hid (freshZ_c w n hn)
 have HF2:=Lib.hid (fun (w : World) => freshZ_c w m hm)
 have HC:=Lib.hid cellsNew_c
 have HN:=Lib.hid namesNew_c
 go_enter Tryz.func13,Tryz.ntmps13
 go_upto_region 1 with (fail)
 go_wp2_with (first | (go_at_call_of 30 (Value.int IntKind.i64 (n : Int)); refine HF1.out.mono ?_; rintro e w1 ⟨p,rfl,h1⟩; have HP:=Lib.hid h1; clear h1) | (go_at_call_of 30 (Value.int IntKind.i64 (m : Int)); refine (HF2.out _).mono ?_; rintro e w2 ⟨q,rfl,h2⟩; have HQ:=Lib.hid h2; clear h2) | (go_at_call 31; refine (HC.out _).mono ?_; rintro e w3 ⟨rfl,h3⟩; have H3:=Lib.hid h3; clear h3) | (go_at_call 32; refine (HN.out _).mono ?_; rintro e w4 ⟨rfl,h4⟩; have H4:=Lib.hid h4; clear h4))
 first | go_ret | go_ret2
 obtain ⟨hax,hb1⟩:=HP.out
 obtain ⟨hbx,hb2⟩:=HQ.out
 have hb3 : Below w2.heap.size w2 w3:=by rw [H3.out]; exact (Below.refl _ w2).alloc (Nat.le_refl _) _
 have hb4 : Below w3.heap.size w3 w4:=by rw [H4.out]; exact (Below.refl _ w3).alloc (Nat.le_refl _) _
 have hz3 : w3.heap.size = w2.heap.size + 1:=by rw [H3.out,World.size_alloc]
 have hz4 : w4.heap.size = w3.heap.size + 1:=by rw [H4.out,World.size_alloc]
 obtain ⟨SV,hSV⟩ : ∃ SV,SV = Obj.cells #[Value.pointer (some ⟨p,0,none⟩),.pointer (some ⟨q,0,none⟩),.pointer (some ⟨w2.heap.size,0,none⟩),.pointer (some ⟨w3.heap.size,0,none⟩)] 54:=⟨_,rfl⟩
 have hb5 : Below w4.heap.size w4 (w4.alloc SV):=(Below.refl _ w4).alloc (Nat.le_refl _) _
 have s1:=hb1.size
 have s2:=hb2.size
 have hc3 : w3.heap[w2.heap.size]? = some (.cells #[.map none] 110):=by rw [H3.out]; exact heap_alloc_new _ _
 have hn4 : w4.heap[w3.heap.size]? = some (.cells #[.map none] 125):=by rw [H4.out]; exact heap_alloc_new _ _
 have hfin : Below w.heap.size w (w4.alloc SV):=(((hb1.trans (hb2.mono s1)).trans (hb3.mono (by omega))).trans (hb4.mono (by omega))).trans (hb5.mono (by omega))
 refine ⟨w4.heap.size,p,q,w2.heap.size,w3.heap.size,fun b => w.heap.size ≤ b ∧ b < w1.heap.size,fun b => w1.heap.size ≤ b ∧ b < w2.heap.size,fun b => b = w2.heap.size,rfl,?_,?_⟩
 · change ShZ (w4.alloc (Obj.cells #[Value.pointer (some ⟨p,0,none⟩),.pointer (some ⟨q,0,none⟩),.pointer (some ⟨w2.heap.size,0,none⟩),.pointer (some ⟨w3.heap.size,0,none⟩)] 54)) _ _ _ _ _ _ _ _ _ _ _ _ _
   rw [← hSV]
   have hkb : ∀ {a b : World},Below a.heap.size a b → KeepZ (fun _ => False) a b:=fun h => KeepZ.of h
   refine ⟨?_,?_,?_,?_,?_,?_,?_,?_,?_,?_⟩
   · rw [← hSV]; exact heap_alloc_new _ _
   · exact (((hax.keep (hkb hb2) (fun _ _ h => h)).keep (hkb hb3) (fun _ _ h => h)).keep (hkb hb4) (fun _ _ h => h)).keep (hkb hb5) (fun _ _ h => h)
   · exact ((hbx.keep (hkb hb3) (fun _ _ h => h)).keep (hkb hb4) (fun _ _ h => h)).keep (hkb hb5) (fun _ _ h => h)
   · refine ⟨none,.map [],fun _ => False,⟨?_,rfl⟩,Rep.empty _ _,rfl,fun b e => by simp at e,fun b h => h.elim⟩
     exact (hb5.block _ (by have:=(Array.getElem?_eq_some_iff.1 hc3).1; omega)).trans ((hb4.block _ (Array.getElem?_eq_some_iff.1 hc3).1).trans hc3)
   · exact (hb5.block _ (Array.getElem?_eq_some_iff.1 hn4).1).trans hn4
   · omega
   · rintro b (h | h | h) <;> (try dsimp only at *) <;> omega
   · refine ⟨fun h => ?_,fun h => ?_,fun h => ?_⟩ <;> (try dsimp only at *) <;> omega
   · intro b
     refine ⟨fun h => ⟨fun h' => ?_,fun h' => ?_⟩,fun h h' => ?_⟩ <;> (try dsimp only at *) <;> omega
   · rw [World.size_alloc]
     refine ⟨fun b h => ?_,?_,?_⟩
     · rcases h with h | h | h | h <;> (try dsimp only at *) <;> omega
     · refine ⟨?_,?_,?_⟩ <;> (try dsimp only at *) <;> omega
     · omega
 · rw [hSV] at hfin; exact hfin
end Go.Proofs.YtbkmnboicihchaaGreat
namespace Go.Proofs.YtbkmnboicihchaaGreat
set_option maxRecDepth 100000
set_option maxHeartbeats 4000000
set_option linter.unusedSimpArgs false
set_option linter.unusedVariables false
open Go Go.RowKit Go.Shelf Go.Maps
def liveL (n : Nat) (dead : List Ik) : List Ik:=(freshL n).filter fun y => decide (y ∉ dead)
theorem liveL_succ (n : Nat) (dead : List Ik) : liveL (n + 1) dead = liveL n dead ++ if (⟨0,((n : Int) + 1)⟩ : Ik) ∈ dead then [] else [⟨0,((n : Int) + 1)⟩]:=by
 unfold liveL
 rw [freshL_succ,List.filter_append]
 congr 1
 by_cases h : (⟨0,((n : Int) + 1)⟩ : Ik) ∈ dead
 · rw [if_pos h,List.filter_cons_of_neg (by simpa using h)]; rfl
 · rw [if_neg h,List.filter_cons_of_pos (by simpa using h)]; rfl
theorem liveL_len (n : Nat) (dead : List Ik) : (liveL n dead).length ≤ n:=by
 have:=List.length_filter_le (fun y => decide (y ∉ dead)) (freshL n)
 rw [freshL_len] at this
 exact this
theorem live_c {w : World} {base : Nat} {A : Option Addr} {c : Nat} {dead : List Ik} (n : Nat) (hn : n ≤ 1000) (h : w.ownsRow base 27 2 (.slice A dead.length c) dead.length (ikCells dead)) (hdl : dead.length ≤ 100000) :
   Calls Tryz.prog 19 #[.int .i64 n,.slice A dead.length c] w fun e w' => ∃ A' c',e = .returned (.slice A' (liveL n dead).length c') ∧ w'.ownsRow w.heap.size 27 2 (.slice A' (liveL n dead).length c') (liveL n dead).length (ikCells (liveL n dead)) ∧ Below w.heap.size w w':=by
 obtain ⟨m,hm⟩ : ∃ m,m = dead.length:=⟨_,rfl⟩
 have hcap : m ≤ c ∧ c ≤ 9223372036854775807:=by obtain ⟨_,_,e,h1,h2⟩:=own_parts h; cases e; rw [hm]; exact ⟨h1,h2⟩
 obtain ⟨hc1,hc2⟩:=hcap
 have hrow : ∀ (wx : World) (d : Below w.heap.size w wx) (j : Nat) (hj : j < dead.length),∃ q,A = some ⟨q,0,none⟩ ∧ wx.rangeAt q (j * 2) [.int .i64 dead[j].a,.int .i64 dead[j].n]:=fun wx d j hj => by
   obtain ⟨q,h1,h2⟩:=ik_row_at h hj
   obtain ⟨-,cur,h3⟩:=own_blk h q (by rw [h1]; rfl)
   have hq:=(Array.getElem?_eq_some_iff.1 h3).1
   rw [Nat.zero_add] at h2
   exact ⟨q,h1,fun i v hv => (World.cell?_of_block (a:=⟨q,j * 2 + i,none⟩) (d.block q hq)).trans (h2 i v hv)⟩
 have HROW:=Lib.hid hrow
 have HM:=Lib.hid hm
 have hm2 : m ≤ 100000:=by rw [hm]; exact hdl
 have HIA:=Lib.hid (show ∀ a b : Value,(Tryz.prog.info? 27).map (·.size) = some (#[a,b] : Array Value).size from fun _ _ => infIk)
 have HIL:=Lib.hid (show ∀ a b : Value,(Tryz.prog.info? 27).map (·.size) = some [a,b].length from fun _ _ => infIk)
 obtain ⟨ti,hti,hz0,hz1,hz2⟩:=info_parts infoIk
 have HTI:=Lib.hid (And.intro hti (And.intro hz0 (And.intro hz1 hz2)))
 rw [← hm]
 clear h hdl hrow hm hti hz0 hz1 hz2
 go_enter Tryz.func19,Tryz.ntmps19
 go_wp2
 go_loopw [5,6,7,8,10,12] (fun s v b o x i wr => ∃ j : Nat,j ≤ n ∧ i = .int .i64 j ∧ ∃ A' c',s = .slice A' (liveL j dead).length c' ∧ Hid (wr.ownsRow w.heap.size 27 2 (.slice A' (liveL j dead).length c') (liveL j dead).length (ikCells (liveL j dead)) ∧ Below w.heap.size w wr)) (fun _ _ _ _ _ i _ => n - (intOf i).toNat)
 case atStart => exact ⟨0,Nat.zero_le _,rfl,none,0,rfl,Lib.hid ⟨⟨rfl,.inl ⟨rfl,rfl⟩⟩,Below.refl _ _⟩⟩
 case round =>
   obtain ⟨j,hj,rfl,A',c',rfl,hR⟩:=hrel
   by_cases hlt : j < n
   · have hj1 : (j : Int) < n:=by omega
     have hj0 : (0 : Int) ≤ j:=by omega
     have hw : wrap64 ((j : Int) + 1) = (j : Int) + 1:=by unfold wrap64; omega
     obtain ⟨g7,hg7⟩ : ∃ g,g = wr.heap.size:=⟨_,rfl⟩
     obtain ⟨ll,hll⟩ : ∃ ll,ll = (liveL j dead).length:=⟨_,rfl⟩
     have hll2 : ll ≤ j:=by rw [hll]; exact liveL_len j dead
     have HLL:=Lib.hid hll
     rw [← hll]
     clear hll
     go_upto_region 6 with (first | (refine wpList_store_row rfl 27 _ _ rfl wr.heap.size #[.int .i64 0,.int .i64 ((j : Int) + 1)] rfl rfl 27 #[.int .i64 0,.int .i64 0] (heap_alloc_new _ _) (HIA.out _ _) rfl (by kernel_rfl) ?_) | fail)
     obtain ⟨w2,hw2⟩ : ∃ w2,w2 = (wr.alloc (.cells #[.int .i64 0,.int .i64 0] 27)).setRow wr.heap.size #[.int .i64 0,.int .i64 ((j : Int) + 1)]:=⟨_,rfl⟩
     change Code.wp _ _ _ _ ((wr.alloc (.cells #[.int .i64 0,.int .i64 0] 27)).setRow wr.heap.size #[.int .i64 0,.int .i64 ((j : Int) + 1)])
     rw [← hw2,← hg7]
     have hb2 : Below wr.heap.size wr w2:=by rw [hw2]; exact below_row ((Below.refl _ wr).alloc (Nat.le_refl _) _) (Nat.le_refl _) _
     have hk2 : w2.heap[g7]? = some (.cells #[.int .i64 0,.int .i64 ((j : Int) + 1)] 27):=by rw [hw2,hg7]; exact setRow_heap _ _ _ _ _ _ (heap_alloc_new _ _)
     have hK2 : Hid (Below wr.heap.size wr w2 ∧ w2.heap[g7]? = some (.cells #[.int .i64 0,.int .i64 ((j : Int) + 1)] 27)):=Lib.hid ⟨hb2,hk2⟩
     have HG7:=Lib.hid hg7
     clear hw2 hb2 hk2 hg7
     go_wp2
     go_loopw [8,10,20] (fun b x i wr => ∃ k : Nat,k ≤ m ∧ i = .int .i64 k ∧ ∃ f,b = .bool f ∧ Hid (f = decide ((⟨0,((j : Int) + 1)⟩ : Ik) ∉ dead.take k) ∧ Below w2.heap.size w2 wr)) (fun _ _ i _ => m - (intOf i).toNat)
     case atStart => exact ⟨0,Nat.zero_le _,rfl,true,rfl,Lib.hid ⟨by simp,Below.refl _ _⟩⟩
     case round =>
       obtain ⟨k,hk,rfl,f,rfl,hI⟩:=hrel
       by_cases hkm : k < m
       · have hkd : k < dead.length:=by rw [← HM.out]; exact hkm
         have hbw : Below w.heap.size w wr:=(hR.out.2.trans (hK2.out.1.mono hR.out.2.size)).trans (hI.out.2.mono (Nat.le_trans hR.out.2.size hK2.out.1.size))
         obtain ⟨q,hA,hrg⟩:=HROW.out wr hbw k hkd
         subst hA
         have hk1 : (k : Int) < m:=by omega
         have hk0 : (0 : Int) ≤ k:=by omega
         obtain ⟨ya,hya⟩ : ∃ y,y = dead[k].a:=⟨_,rfl⟩
         obtain ⟨yn,hyn⟩ : ∃ y,y = dead[k].n:=⟨_,rfl⟩
         rw [← hya,← hyn] at hrg
         have HY:=Lib.hid (And.intro hya hyn)
         have hze:=fun w => eqI w ya yn 0 ((j : Int) + 1)
         have HRG:=Lib.hid hrg
         have hk7 : ∀ o,((wr.alloc o).setRow wr.heap.size #[.int .i64 ya,.int .i64 yn]).heap[g7]? = some (.cells #[.int .i64 0,.int .i64 ((j : Int) + 1)] 27):=fun o => by
           have h1:=(hI.out.2.block g7 (Array.getElem?_eq_some_iff.1 hK2.out.2).1).trans hK2.out.2
           have h2:=(Array.getElem?_eq_some_iff.1 h1).1
           exact (setRow_other _ _ _ _ (by omega)).trans ((heapOld _ _ _ h2).trans h1)
         have HK7:=Lib.hid hk7
         have hnext : decide ((⟨0,((j : Int) + 1)⟩ : Ik) ∉ dead.take (k + 1)) = (decide ((⟨0,((j : Int) + 1)⟩ : Ik) ∉ dead.take k) && !decide (ya = 0 ∧ yn = (j : Int) + 1)):=by
           rw [List.take_succ_eq_append_getElem hkd,hya,hyn]
           have e : (dead[k] = (⟨0,((j : Int) + 1)⟩ : Ik)) ↔ (dead[k].a = 0 ∧ dead[k].n = (j : Int) + 1):=by
             constructor
             · intro h; rw [h]; exact ⟨rfl,rfl⟩
             · rintro ⟨h1,h2⟩
               have : dead[k] = ⟨dead[k].a,dead[k].n⟩:=rfl
               rw [this,h1,h2]
           rw [Bool.eq_iff_iff]
           simp only [decide_eq_true_eq,Bool.and_eq_true,Bool.not_eq_true',decide_eq_false_iff_not,List.mem_append,List.mem_singleton,not_or]
           exact and_congr_right (fun _ => not_congr ⟨fun h => e.1 h.symm,fun h => (e.2 h).symm⟩)
         have HNX:=Lib.hid hnext
         clear hya hyn hrg hk7 hnext
         cases f with
         | false =>
           go_wp2_with (first | (refine wpList_mid rfl 27 _ rfl q (k * 2) rfl [.int .i64 ya,.int .i64 yn] _ HRG.out ikUnd rfl (HIL.out _ _) ?_) | (refine wpList_store_row rfl 27 _ _ rfl wr.heap.size #[.int .i64 ya,.int .i64 yn] rfl rfl 27 #[.int .i64 0,.int .i64 0] (heap_alloc_new _ _) (HIA.out _ _) rfl (by kernel_rfl) ?_) | fail)
           go_roundw
           case measure => simp [intOf]; omega
           case rel => exact ⟨k + 1,by omega,by go_num,false,rfl,Lib.hid ⟨by rw [HNX.out,← hI.out.1]; rfl,below_row (hI.out.2.alloc hI.out.2.size _) hI.out.2.size _⟩⟩
         | true =>
           by_cases he : ya = 0 ∧ yn = (j : Int) + 1
           · rw [decide_eq_true he] at hze
             have HE:=Lib.hid he
             clear he
             go_wp2_with (first | (refine wpList_mid rfl 27 _ rfl q (k * 2) rfl [.int .i64 ya,.int .i64 yn] _ HRG.out ikUnd rfl (HIL.out _ _) ?_) | (refine wpList_store_row rfl 27 _ _ rfl wr.heap.size #[.int .i64 ya,.int .i64 yn] rfl rfl 27 #[.int .i64 0,.int .i64 0] (heap_alloc_new _ _) (HIA.out _ _) rfl (by kernel_rfl) ?_) | (refine wpList_row rfl 27 _ rfl wr.heap.size rfl 27 #[.int .i64 ya,.int .i64 yn] (0,0) _ (setRow_heap _ _ _ _ _ _ (heap_alloc_new _ _)) ikUnd rfl (HIA.out _ _) ?_) | (refine wpList_row rfl 27 _ rfl g7 rfl 27 #[.int .i64 0,.int .i64 ((j : Int) + 1)] (0,0) _ (HK7.out _) ikUnd rfl (HIA.out _ _) ?_) | fail)
             go_roundw
             case measure => simp [intOf]; omega
             case rel => exact ⟨k + 1,by omega,by go_num,false,by simp,Lib.hid ⟨by rw [HNX.out,decide_eq_true HE.out]; simp,below_row (hI.out.2.alloc hI.out.2.size _) hI.out.2.size _⟩⟩
           · rw [decide_eq_false he] at hze
             have HE:=Lib.hid he
             clear he
             go_wp2_with (first | (refine wpList_mid rfl 27 _ rfl q (k * 2) rfl [.int .i64 ya,.int .i64 yn] _ HRG.out ikUnd rfl (HIL.out _ _) ?_) | (refine wpList_store_row rfl 27 _ _ rfl wr.heap.size #[.int .i64 ya,.int .i64 yn] rfl rfl 27 #[.int .i64 0,.int .i64 0] (heap_alloc_new _ _) (HIA.out _ _) rfl (by kernel_rfl) ?_) | (refine wpList_row rfl 27 _ rfl wr.heap.size rfl 27 #[.int .i64 ya,.int .i64 yn] (0,0) _ (setRow_heap _ _ _ _ _ _ (heap_alloc_new _ _)) ikUnd rfl (HIA.out _ _) ?_) | (refine wpList_row rfl 27 _ rfl g7 rfl 27 #[.int .i64 0,.int .i64 ((j : Int) + 1)] (0,0) _ (HK7.out _) ikUnd rfl (HIA.out _ _) ?_) | fail)
             go_roundw
             case measure => simp [intOf]; omega
             case rel => exact ⟨k + 1,by omega,by go_num,true,by simp,Lib.hid ⟨by rw [HNX.out,decide_eq_false HE.out,← hI.out.1]; rfl,below_row (hI.out.2.alloc hI.out.2.size _) hI.out.2.size _⟩⟩
       · obtain rfl : k = m:=by omega
         have htk : dead.take k = dead:=by rw [HM.out]; exact List.take_length
         have hmem : f = decide ((⟨0,((j : Int) + 1)⟩ : Ik) ∉ dead):=by rw [hI.out.1,htk]
         have HF:=Lib.hid hmem
         have hbI:=hI.out.2
         have hbw : Below w.heap.size w wr:=(hR.out.2.trans (hK2.out.1.mono hR.out.2.size)).trans (hbI.mono (Nat.le_trans hR.out.2.size hK2.out.1.size))
         have hrow2 : wr.ownsRow w.heap.size 27 2 (.slice A' ll c') ll (ikCells (liveL j dead)):=by
           rw [HLL.out]
           refine own_keep hR.out.1 (fun k' e => ?_)
           obtain ⟨-,cur,h3⟩:=own_blk hR.out.1 k' e
           have hq:=(Array.getElem?_eq_some_iff.1 h3).1
           exact (hbI.block k' (Nat.lt_of_lt_of_le hq hK2.out.1.size)).trans (hK2.out.1.block k' hq)
         have hk7 : wr.heap[g7]? = some (.cells #[.int .i64 0,.int .i64 ((j : Int) + 1)] 27):=(hbI.block g7 (Array.getElem?_eq_some_iff.1 hK2.out.2).1).trans hK2.out.2
         have HBW:=Lib.hid hbw
         have HROW2:=Lib.hid hrow2
         have HK7:=Lib.hid hk7
         have hcc : ll ≤ c' ∧ c' ≤ 9223372036854775807:=by obtain ⟨_,_,e,h1,h2⟩:=own_parts hrow2; cases e; exact ⟨h1,h2⟩
         obtain ⟨hc3,hc4⟩:=hcc
         clear hmem hbI hbw hrow2 hk7 htk
         cases f with
         | false =>
           have hin : (⟨0,((j : Int) + 1)⟩ : Ik) ∈ dead:=by have:=HF.out; simpa using this.symm
           go_wp2
           go_roundw
           case measure => simp [intOf]; omega
           case rel =>
             refine ⟨j + 1,by omega,by go_num,A',c',?_,Lib.hid ⟨?_,HBW.out⟩⟩
             · rw [liveL_succ,if_pos hin,List.append_nil,HLL.out]
             · rw [liveL_succ,if_pos hin,List.append_nil,← HLL.out]; exact HROW2.out
         | true =>
           have hin : ¬ (⟨0,((j : Int) + 1)⟩ : Ik) ∈ dead:=by have:=HF.out; simpa using this.symm
           have HIN:=Lib.hid hin
           clear hin
           go_wp2_with (first | (refine wpList_row rfl 27 _ rfl g7 rfl 27 #[.int .i64 0,.int .i64 ((j : Int) + 1)] (0,0) _ HK7.out ikUnd rfl (HIA.out _ _) ?_) | (at_builtin; refine wpList_append_lies _ rfl (.tmp 32) (.tmp 34) 44 rfl w.heap.size 27 ti _ 2 16 undIks HTI.out.1 HTI.out.2.1 HTI.out.2.2.1 HTI.out.2.2.2 rfl (by decide) (.slice A' ll c') ll (ikCells (liveL j dead)) rfl (HROW2.out.alloc _) ⟨wr.heap.size,0,none⟩ 1 1 [.int .i64 0,.int .i64 ((j : Int) + 1)] rfl rfl (World.news_of_block (heap_alloc_new wr (.cells #[.int .i64 0,.int .i64 ((j : Int) + 1)] 27))) (by intro u hu; simp only [List.mem_cons,List.not_mem_nil,or_false] at hu; rcases hu with rfl | rfl <;> rfl) (by decide) (by unfold maxLen; omega) (by omega) (by rw [World.size_alloc]; have:=HBW.out.size; omega) (wr.heap.size + 1) (by rw [World.size_alloc]) ?_; intro g3 cap3 w4 hown4 hgrow hat hlt4; have HO4:=Lib.hid hown4; have HG4:=Lib.hid hgrow; clear hown4 hgrow hat hlt4))
           go_roundw
           case measure => simp [intOf]; omega
           case rel =>
             refine ⟨j + 1,by omega,by go_num,some ⟨g3,0,none⟩,cap3,?_,Lib.hid ⟨?_,?_⟩⟩
             · rw [liveL_succ,if_neg HIN.out,List.length_append,← HLL.out]; rfl
             · rw [liveL_succ,if_neg HIN.out,List.length_append,← HLL.out,ikCells_snoc]; exact HO4.out
             · have hb:=HBW.out
               exact (hb.alloc hb.size _).grown HG4.out (by rw [World.size_alloc]; have:=hb.size; omega) (fun k e => (HROW2.out.lt k e).1)
   · obtain rfl : j = n:=by omega
     go_wp2
     first | go_ret | go_ret2
     exact ⟨A',c',rfl,hR.out⟩
end Go.Proofs.YtbkmnboicihchaaGreat
