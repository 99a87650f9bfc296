/- The reference's Right of a content. law 28's Build: plans; the head. fill of no sheet; what is there (without edits). fill: Len of any axis; Take where the range is out; the law's cell and node. -/
import Derived.Test.YtbkmnboicihchaaGreatXsM
import Derived.Test.YtbkmnboicihchaaGreatFjQbFkGtDpFl
import Derived.Test.YtbkmnboicihchaaGreatOiQhQg
import Derived.Test.YtbkmnboicihchaaGreatIoIpSrQdQvGiCu
namespace Go.Proofs.YtbkmnboicihchaaGreat
set_option maxRecDepth 100000
set_option maxHeartbeats 2000000
open Go Go.RowKit Go.Shelf
theorem r2_any (v : Vl) (hv : v.ok) (w : World) : Calls Tryz.prog 40 #[.agg v.cells.toArray] w fun e w' => e = .returned (.bool (r2 v)) ∧ Below w.heap.size w w':=by
 obtain ⟨k,m,x,s,b,f⟩:=v
 have hm : i64 m:=hv.2.1
 have hs : s.size ≤ 9223372036854775807:=hv.2.2.2.1
 by_cases h0 : k = 0
 · subst h0; exact r2_0 m x f s b hm hs w
 by_cases h1 : k = 1
 · subst h1; exact r2_1 m x f s b hm hs w
 by_cases h2 : k = 2
 · subst h2; exact r2_2 m x f s b hm hs w
 by_cases h3 : k = 3
 · subst h3; exact r2_3 m x f s b hm hs w
 by_cases h4 : k = 4
 · subst h4; exact r2_4 m x f s b hm hs w
 exact r2_no k h0 h1 h2 h3 h4 m x f s b hm hs w
theorem nil_bytes (s : ByteArray) : s.toList = [] ↔ s = noBytes:=by
 have e : noBytes.toList = []:=by unfold noBytes; rw [ByteArray.toList_eq]
 rw [← str_eq,e]
theorem r2_eq (v : Vl) : r2 v = valRight v:=by
 obtain ⟨k,m,x,s,b,f⟩:=v
 unfold r2 valRight
 simp only [ne_eq,nil_bytes]
 by_cases h0 : k = 0
 · subst h0
   rw [Bool.eq_iff_iff]
   simp [zeroV]
   grind
 by_cases h1 : k = 1
 · subst h1
   rw [Bool.eq_iff_iff]
   simp [ofV]
   grind
 by_cases h2 : k = 2
 · subst h2
   rw [Bool.eq_iff_iff]
   simp [textV,badV]
   grind
 by_cases h3 : k = 3
 · subst h3
   rw [Bool.eq_iff_iff]
   simp [truthV]
   grind
 by_cases h4 : k = 4
 · subst h4
   rw [Bool.eq_iff_iff]
   simp [badV]
   grind
 rw [Bool.eq_iff_iff]
 simp [h0,h1,h2,h3,h4]
theorem rblank_c (v : Vl) (w : World) : Calls Tryz.prog 38 #[.agg v.cells.toArray] w fun e w' => e = .returned (.bool (decide (v = zVl))) ∧ Below w.heap.size w w':=by
 have hE : ∀ wx,(Op.equalIn 10000 25 (.agg v.cells.toArray) (.agg zVl.cells.toArray)).run Tryz.prog wx = .ok (decide (v = zVl)) wx:=fun wx => eqV wx v zVl
 obtain ⟨r,hr⟩ : ∃ r,decide (v = zVl) = r:=⟨_,rfl⟩
 rw [hr] at hE ⊢
 obtain ⟨k,m,x,s,b,f⟩:=v
 dsimp only [zVl,Vl.cells] at hE ⊢
 clear hr
 go_enter Tryz.func38,Tryz.ntmps38
 go_wp2
 go_ret
 exact ⟨rfl,(Below.refl _ w).alloc (Nat.le_refl _) _⟩
theorem rbare_c (t : Tr) (w : World) (B : Nat) (A : Option Addr) (c : Nat) (hd : t.d.ok) (hs : SlAt w B A c t.l) (hB : B ≤ w.heap.size) :
   Calls Tryz.prog 39 #[nodeV t.d A t.l.length c] w fun e w' => e = .returned (.bool (sameB t zTr)) ∧ Below w.heap.size w w':=by
 have hb0 : Below w.heap.size w (w.alloc (.cells (nodeA t.d A t.l.length c) 34)):=(Below.refl _ w).alloc (Nat.le_refl _) _
 have hS : Calls Tryz.prog 7 #[nodeV t.d A t.l.length c,.agg (nodeA zNd none 0 0)] (w.alloc (.cells (nodeA t.d A t.l.length c) 34)) fun e w' => e = .returned (.bool (sameB t zTr)) ∧ Below (w.alloc (.cells (nodeA t.d A t.l.length c) 34)).heap.size (w.alloc (.cells (nodeA t.d A t.l.length c) 34)) w' :=
   rsame_c t zTr _ B A none c 0 hd (hs.below (hb0.mono hB)) zNd_ok (slAt_nil _ _) (by rw [World.size_alloc]; omega)
 obtain ⟨N,hN⟩ : ∃ N,N = nodeA t.d A t.l.length c:=⟨_,rfl⟩
 have hNs : N.size = 22:=by rw [hN]; rfl
 have hinf:=infN
 rw [← hNs] at hinf
 rw [nodeV,← hN] at hS
 rw [nodeV,← hN]
 rw [← hN] at hb0
 obtain ⟨r,hr⟩ : ∃ r,sameB t zTr = r:=⟨_,rfl⟩
 rw [hr] at hS ⊢
 have HS:=Lib.hid hS
 have HI:=Lib.hid hinf
 have HB:=Lib.hid hb0
 clear hS hinf hb0 hN hNs hr hd hs hB
 go_enter Tryz.func39,Tryz.ntmps39
 go_wp2_with (first | (refine wpList_row rfl 34 _ rfl w.heap.size rfl 34 N (0,0) _ (World.alloc_heap_new w _) undN rfl HI.out ?_) | (go_at_call 7; refine HS.out.mono ?_; rintro e w2 ⟨rfl,hbe⟩))
 go_ret
 exact ⟨rfl,HB.out.trans (hbe.mono HB.out.size)⟩
theorem right18_eq (x : Ct) : rightC x = (if x.k = 0 then decide (x.v = zVl) && sameB x.t zTr else if x.k = 1 then decide (x.v.k ≠ 0) && (r2 x.v && sameB x.t zTr) else if x.k = 2 then decide (x.v = zVl) && decide (checkI x.t = 0) else false):=by
 unfold rightC sameC
 rw [r2_eq]
 split
 · rename_i h
   rw [decide_eq_true (show x.k = zCt.k from h),Bool.true_and]
   rfl
 · split
   · cases sameB x.t zTr <;> cases valRight x.v <;> simp
   · rfl
theorem rright18_c (x : Ct) (w : World) (B : Nat) (A : Option Addr) (c : Nat) (hv : x.v.ok) (hd : x.t.d.ok) (hs : SlAt w B A c x.t.l) (hB : B ≤ w.heap.size) (hsz : x.t.size ≤ 1048576) :
   Calls Tryz.prog 15 #[contV x A c] w fun e w' => e = .returned (.bool (rightC x)) ∧ Below w.heap.size w w':=by
 obtain ⟨W0,hW0⟩ : ∃ W0,W0 = w.alloc (.cells (contA x A c) 68):=⟨_,rfl⟩
 have hbel : Below w.heap.size w W0:=by rw [hW0]; exact (Below.refl _ w).alloc (Nat.le_refl _) _
 have hz0 : W0.heap.size = w.heap.size + 1:=by rw [hW0]; simp
 have hk0 : W0.heap[w.heap.size]? = some (.cells (contA x A c) 68):=by rw [hW0]; exact heap_alloc_new _ _
 have hsl : ∀ wx,Below W0.heap.size W0 wx → SlAt wx B A c x.t.l:=fun wx hx => (hs.below (hbel.mono hB)).below (hx.mono (by omega))
 have hT : ∀ wx,Below W0.heap.size W0 wx → Calls Tryz.prog 39 #[nodeV x.t.d A x.t.l.length c] wx fun e w' => e = .returned (.bool (sameB x.t zTr)) ∧ Below wx.heap.size wx w':=fun wx hx => rbare_c x.t wx B A c hd (hsl wx hx) (by have:=hx.size; omega)
 have hV:=fun wx => r2_any x.v hv wx
 have hE:=fun wx => rblank_c x.v wx
 have hC:=fun wx (hx : Below W0.heap.size W0 wx) => rcheck_c x.t wx B A c hd (hsl wx hx) (by have:=hx.size; omega) hsz
 have hrow:=fun wx (hx : Below W0.heap.size W0 wx) => cont_row ((hx.block w.heap.size (by omega)).trans hk0)
 obtain ⟨CA,hCA⟩ : ∃ C,C = contA x A c:=⟨_,rfl⟩
 rw [contV,← hCA]
 rw [← hCA] at hW0 hk0
 have hinf:=infNl x.t.d A x.t.l.length c
 have hiv:=infVl x.v
 have hic:=infC
 rw [show (29 : Nat) = CA.size by rw [hCA]; rfl] at hic
 obtain ⟨b,hb⟩ : ∃ b,b = w.heap.size:=⟨_,rfl⟩
 have e0:=(hrow W0 (Below.refl _ _)).1
 have hr1:=fun wx hx => (hrow wx hx).2.1
 have hvk : ∀ wx,Below W0.heap.size W0 wx → wx.cell? ⟨w.heap.size,1,none⟩ = some (.int .i64 x.v.k):=fun wx hx => hr1 wx hx 0 _ rfl
 have hr7:=fun wx hx => (hrow wx hx).2.2
 rw [nodeV] at hT
 obtain ⟨r,hr⟩ : ∃ r,rightC x = r:=⟨_,rfl⟩
 rw [hr]
 rw [right18_eq] at hr
 obtain ⟨N,hN⟩ : ∃ N,N = nodeA x.t.d A x.t.l.length c:=⟨_,rfl⟩
 rw [nodeV,← hN] at hC
 rw [← hN] at hT hr7 hinf
 clear hrow hd hs hCA hN hv hsl
 obtain ⟨k,v,t⟩:=x
 dsimp only at hT hV e0 hr1 hr7 hr hinf hiv hC hE hvk
 obtain ⟨vc,hvc⟩ : ∃ u,u = v.cells:=⟨_,rfl⟩
 rw [← hvc] at hr1 hiv hE hV
 rw [← hb] at e0 hr1 hr7 hz0 hvk hk0
 have HT:=Lib.hid hT
 have HV:=Lib.hid hV
 have HE:=Lib.hid hE
 have HC:=Lib.hid hC
 have HI:=Lib.hid hinf
 have HJ:=Lib.hid hiv
 have HIC:=Lib.hid hic
 have HR1:=Lib.hid hr1
 have HR7:=Lib.hid hr7
 have HR:=Lib.hid hr
 have HW:=Lib.hid hW0
 have HK0:=Lib.hid hk0
 have HBL:=Lib.hid hbel
 have HVK:=Lib.hid hvk
 clear hT hV hE hC hinf hiv hic hr1 hr7 hr hW0 hvc hbel hk0 hvk
 have HB:=Lib.hid hb
 have hb00 : Below W0.heap.size W0 W0:=Below.refl _ _
 clear hb
 by_cases k0 : k = 0
 · subst k0
   have hr:=HR.out
   rw [if_pos rfl] at hr
   have HR2:=Lib.hid hr
   clear hr
   cases ev : decide (v = zVl) with
   | false =>
     have HE1:=Lib.hid (by have:=HE.out W0; rw [ev] at this; exact this)
     go_enter Tryz.func15,Tryz.ntmps15
     go_upto_region 1 with (fail)
     rw [← HW.out,← HB.out]
     go_wp2_with (first | (refine wpList_mid rfl 25 _ rfl b 1 rfl vc _ (HR1.out _ hb00) undVl rfl HJ.out ?_) | (go_at_call 38; refine HE1.out.mono ?_; rintro e w2 ⟨rfl,hbe⟩))
     go_ret
     exact ⟨ret_bool (by rw [← HR2.out,ev]; rfl),HBL.out.trans (hbe.mono HBL.out.size)⟩
   | true =>
     have HE1:=Lib.hid (by have:=HE.out W0; rw [ev] at this; exact this)
     go_enter Tryz.func15,Tryz.ntmps15
     go_upto_region 1 with (fail)
     rw [← HW.out,← HB.out]
     go_wp2_with (first | (refine wpList_mid rfl 25 _ rfl b 1 rfl vc _ (HR1.out _ hb00) undVl rfl HJ.out ?_) | (go_at_call 38; refine HE1.out.mono ?_; rintro e w2 ⟨rfl,hbe⟩) | (refine wpList_mid rfl 34 _ rfl b 7 rfl N.toList _ (HR7.out _ hbe) undN rfl HI.out ?_; simp only [Array.toArray_toList]) | (go_at_call 39; refine (HT.out _ hbe).mono ?_; rintro e w3 ⟨rfl,hb3⟩))
     go_ret
     exact ⟨ret_bool (by rw [← HR2.out,ev]; rfl),HBL.out.trans ((hbe.trans (hb3.mono hbe.size)).mono HBL.out.size)⟩
 have q0 : (k == 0) = false:=by simpa using k0
 by_cases k1 : k = 1
 · subst k1
   have hr:=HR.out
   rw [if_neg (by decide),if_pos rfl] at hr
   have HR2:=Lib.hid hr
   clear hr
   have hvk0:=HVK.out _ hb00
   by_cases vk : v.k = 0
   · have qv : (v.k != 0) = false:=by simpa using vk
     have HVZ:=Lib.hid vk
     clear vk
     go_enter Tryz.func15,Tryz.ntmps15
     go_upto_region 1 with (fail)
     rw [← HW.out,← HB.out]
     go_wp2
     go_ret
     exact ⟨ret_bool (by rw [← HR2.out]; simp [HVZ.out]),HBL.out⟩
   · have qv : (v.k != 0) = true:=by simpa using vk
     have HVZ:=Lib.hid vk
     clear vk
     cases er : r2 v with
     | false =>
       have HV1:=Lib.hid (by have:=HV.out W0; rw [er] at this; exact this)
       go_enter Tryz.func15,Tryz.ntmps15
       go_upto_region 1 with (fail)
       rw [← HW.out,← HB.out]
       go_wp2_with (first | (refine wpList_mid rfl 25 _ rfl b 1 rfl vc _ (HR1.out _ hb00) undVl rfl HJ.out ?_) | (go_at_call 40; refine HV1.out.mono ?_; rintro e w2 ⟨rfl,hbe⟩))
       go_ret
       exact ⟨ret_bool (by rw [← HR2.out,er]; simp),HBL.out.trans (hbe.mono HBL.out.size)⟩
     | true =>
       have HV1:=Lib.hid (by have:=HV.out W0; rw [er] at this; exact this)
       go_enter Tryz.func15,Tryz.ntmps15
       go_upto_region 1 with (fail)
       rw [← HW.out,← HB.out]
       go_wp2_with (first | (refine wpList_mid rfl 25 _ rfl b 1 rfl vc _ (HR1.out _ hb00) undVl rfl HJ.out ?_) | (go_at_call 40; refine HV1.out.mono ?_; rintro e w2 ⟨rfl,hbe⟩) | (refine wpList_mid rfl 34 _ rfl b 7 rfl N.toList _ (HR7.out _ hbe) undN rfl HI.out ?_; simp only [Array.toArray_toList]) | (go_at_call 39; refine (HT.out _ hbe).mono ?_; rintro e w3 ⟨rfl,hb3⟩))
       go_ret
       exact ⟨ret_bool (by rw [← HR2.out,er]; simp [HVZ.out]),HBL.out.trans ((hbe.trans (hb3.mono hbe.size)).mono HBL.out.size)⟩
 have q1 : (k == 1) = false:=by simpa using k1
 by_cases k2 : k = 2
 · subst k2
   have hr:=HR.out
   rw [if_neg (by decide),if_neg (by decide),if_pos rfl] at hr
   have HR2:=Lib.hid hr
   clear hr
   cases ev : decide (v = zVl) with
   | false =>
     have HE1:=Lib.hid (by have:=HE.out W0; rw [ev] at this; exact this)
     go_enter Tryz.func15,Tryz.ntmps15
     go_upto_region 1 with (fail)
     rw [← HW.out,← HB.out]
     go_wp2_with (first | (refine wpList_mid rfl 25 _ rfl b 1 rfl vc _ (HR1.out _ hb00) undVl rfl HJ.out ?_) | (go_at_call 38; refine HE1.out.mono ?_; rintro e w2 ⟨rfl,hbe⟩))
     go_ret
     exact ⟨ret_bool (by rw [← HR2.out,ev]; rfl),HBL.out.trans (hbe.mono HBL.out.size)⟩
   | true =>
     have HE1:=Lib.hid (by have:=HE.out W0; rw [ev] at this; exact this)
     obtain ⟨ck,hck⟩ : ∃ ck,checkI t = ck:=⟨_,rfl⟩
     have HCK:=Lib.hid hck
     rw [hck] at HC
     clear hck
     by_cases ec : ck = 0
     · subst ec
       go_enter Tryz.func15,Tryz.ntmps15
       go_upto_region 1 with (fail)
       rw [← HW.out,← HB.out]
       go_wp2_with (first | (refine wpList_mid rfl 25 _ rfl b 1 rfl vc _ (HR1.out _ hb00) undVl rfl HJ.out ?_) | (go_at_call 38; refine HE1.out.mono ?_; rintro e w2 ⟨rfl,hbe⟩) | (refine wpList_mid rfl 34 _ rfl b 7 rfl N.toList _ (HR7.out _ hbe) undN rfl HI.out ?_; simp only [Array.toArray_toList]) | (go_at_call 41; refine (HC.out _ hbe).mono ?_; rintro e w3 ⟨rfl,hb3⟩))
       go_ret
       exact ⟨ret_bool (by rw [← HR2.out,ev,HCK.out]; rfl),HBL.out.trans ((hbe.trans (hb3.mono hbe.size)).mono HBL.out.size)⟩
     · have qc : (ck == 0) = false:=by simpa using ec
       have HEC:=Lib.hid ec
       clear ec
       go_enter Tryz.func15,Tryz.ntmps15
       go_upto_region 1 with (fail)
       rw [← HW.out,← HB.out]
       go_wp2_with (first | (refine wpList_mid rfl 25 _ rfl b 1 rfl vc _ (HR1.out _ hb00) undVl rfl HJ.out ?_) | (go_at_call 38; refine HE1.out.mono ?_; rintro e w2 ⟨rfl,hbe⟩) | (refine wpList_mid rfl 34 _ rfl b 7 rfl N.toList _ (HR7.out _ hbe) undN rfl HI.out ?_; simp only [Array.toArray_toList]) | (go_at_call 41; refine (HC.out _ hbe).mono ?_; rintro e w3 ⟨rfl,hb3⟩))
       go_ret
       exact ⟨ret_bool (by rw [← HR2.out,ev,HCK.out]; simp [HEC.out]),HBL.out.trans ((hbe.trans (hb3.mono hbe.size)).mono HBL.out.size)⟩
 have q2 : (k == 2) = false:=by simpa using k2
 have hr:=HR.out
 rw [if_neg k0,if_neg k1,if_neg k2] at hr
 have HR2:=Lib.hid hr
 clear hr
 go_enter Tryz.func15,Tryz.ntmps15
 go_upto_region 1 with (fail)
 rw [← HW.out,← HB.out]
 go_wp2
 go_ret
 exact ⟨ret_bool HR2.out,HBL.out⟩
end Go.Proofs.YtbkmnboicihchaaGreat
namespace Go.Proofs.YtbkmnboicihchaaGreat
set_option maxRecDepth 100000
set_option linter.unusedSimpArgs false
set_option linter.unusedVariables false
open Go Go.RowKit Go.Shelf Go.Maps
structure Pn where
 rows : Nat
 cols : Nat
 dead : List Ad
 cells : List (Ad × Ct)
def Ad.vals (a : Ad) : List Value:=[.int .i64 a.ra,.int .i64 a.rn,.int .i64 a.ca,.int .i64 a.cn]
def Ad.row (a : Ad) : Ik:=⟨a.ra,a.rn⟩
def Ad.col (a : Ad) : Ik:=⟨a.ca,a.cn⟩
def AdSl (w : World) (B : Nat) (A : Option Addr) (c : Nat) (l : List Ad) : Prop :=
 l.length ≤ c ∧ c ≤ 9223372036854775807 ∧ (∀ a ∈ l,a.ok) ∧ (l = [] ∨ ∃ b o,A = some ⟨b,o,none⟩ ∧ b < B ∧ ∀ j (h : j < l.length),w.rangeAt b (o + j * 4) l[j].vals)
def ACSl (w : World) (B : Nat) (A : Option Addr) (c : Nat) (l : List (Ad × Ct)) : Prop :=
 l.length ≤ c ∧ c ≤ 9223372036854775807 ∧ (∀ e ∈ l,e.1.ok ∧ e.2.v.ok ∧ e.2.t.d.ok ∧ e.2.t.size ≤ 1048576) ∧
   (l = [] ∨ ∃ b o,A = some ⟨b,o,none⟩ ∧ b < B ∧ ∀ j (h : j < l.length),∃ A' c',w.rangeAt b (o + j * 33) (l[j].1.vals ++ (contA l[j].2 A' c').toList) ∧ SlAt w B A' c' l[j].2.t.l)
def Pn.val (P : Pn) (Ad : Option Addr) (cd : Nat) (Ac : Option Addr) (cc : Nat) : Array Value:=#[.int .u8 P.rows,.int .u8 P.cols,.slice Ad P.dead.length cd,.slice Ac P.cells.length cc]
def stopC (x : Ct) : Bool:=greatB x.t || (decide (300 < x.v.text.size) || !rightC x)
theorem isR_c (w : World) (a : Ad) : Calls Tryz.prog 16 #[.agg a.vals.toArray] w fun e w' => e = .returned (.bool a.is) ∧ Below w.heap.size w w':=by
 obtain ⟨g,hg⟩ : ∃ g,g = w.heap.size:=⟨_,rfl⟩
 obtain ⟨ra,rn,ca,cn⟩:=a
 obtain ⟨W,hW⟩ : ∃ W,W = w.alloc (.cells #[.int .i64 ra,.int .i64 rn,.int .i64 ca,.int .i64 cn] 36):=⟨_,rfl⟩
 have hk : W.heap[g]? = some (.cells #[.int .i64 ra,.int .i64 rn,.int .i64 ca,.int .i64 cn] 36):=by rw [hW,hg]; exact heap_alloc_new _ _
 have hb : Below w.heap.size w W:=by rw [hW]; exact (Below.refl _ w).alloc (Nat.le_refl _) _
 have HR0:=Lib.hid (range_row4 hk).1
 have HR1:=Lib.hid (range_row4 hk).2
 have HIL:=Lib.hid (show ∀ a b : Value,(Tryz.prog.info? 27).map (·.size) = some [a,b].length from fun _ _ => infIk)
 have h1:=fun w => eqI w ra rn 0 0
 have h2:=fun w => eqI w ca cn 0 0
 have HG:=Lib.hid hg
 have HW:=Lib.hid hW
 have HB:=Lib.hid hb
 clear hg hW hk hb
 unfold Ad.is isCellB
 dsimp only [Ad.vals]
 generalize decide (ra = 0 ∧ rn = 0) = f at h1 ⊢
 generalize decide (ca = 0 ∧ cn = 0) = k at h2 ⊢
 go_enter Tryz.func16,Tryz.ntmps16
 go_upto_region 1 with (fail)
 rw [← HW.out,← HG.out]
 cases f <;> cases k <;>
   (go_wp2_with (first | (refine wpList_mid rfl 27 _ rfl g 0 rfl [.int .i64 ra,.int .i64 rn] _ HR0.out ikUnd rfl (HIL.out _ _) ?_) | (refine wpList_mid rfl 27 _ rfl g 2 rfl [.int .i64 ca,.int .i64 cn] _ HR1.out ikUnd rfl (HIL.out _ _) ?_) | fail)
    first | go_ret | go_ret2
    exact ⟨rfl,HB.out⟩)
theorem results_tmp4 {P : Program} {fn : Func} {a b c d : Tmp} (h : fn.results = #[.tmp a,.tmp b,.tmp c,.tmp d]) (tmps : Array Value) (w : World) : (results fn tmps).run P w = .ok (.tuple #[tmps.getD a undef,tmps.getD b undef,tmps.getD c undef,tmps.getD d undef]) w:=by
 simp [results,h]
def BuiltPost (P : Pn) (w : World) (e : Ending) (w' : World) : Prop :=
 (e = .returned (.tuple #[.pointer none,.slice none 0 0,.slice none 0 0,.int .i64 0]) ∧ Below w.heap.size w w') ∨
 ∃ s p q ce na n A1 c1 A2 c2 C Zr Zc Zs,e = .returned (.tuple #[.pointer (some ⟨s,0,none⟩),.slice A1 (liveL (P.rows % 10) (P.dead.map Ad.row)).length c1,.slice A2 (liveL (P.cols % 10) (P.dead.map Ad.col)).length c2,.int .i64 1]) ∧
   ShZ w' w.heap.size s p q ce na n ((P.dead.map Ad.row).foldl kill (allL (freshL (P.rows % 10)))) ((P.dead.map Ad.col).foldl kill (allL (freshL (P.cols % 10)))) C Zr Zc Zs ∧
   w'.ownsRow w.heap.size 27 2 (.slice A1 (liveL (P.rows % 10) (P.dead.map Ad.row)).length c1) (liveL (P.rows % 10) (P.dead.map Ad.row)).length (ikCells (liveL (P.rows % 10) (P.dead.map Ad.row))) ∧
   w'.ownsRow w.heap.size 27 2 (.slice A2 (liveL (P.cols % 10) (P.dead.map Ad.col)).length c2) (liveL (P.cols % 10) (P.dead.map Ad.col)).length (ikCells (liveL (P.cols % 10) (P.dead.map Ad.col))) ∧
   Below w.heap.size w w'
end Go.Proofs.YtbkmnboicihchaaGreat
namespace Go.Proofs.YtbkmnboicihchaaGreat
set_option maxRecDepth 100000
set_option linter.unusedSimpArgs false
set_option linter.unusedVariables false
open Go Go.RowKit Go.Shelf Go.Maps
theorem infB3 : ∀ a b c : Value,(Tryz.prog.info? 63).map (·.size) = some (#[a,b,c] : Array Value).size:=fun _ _ _ => by kernel_rfl
theorem undB3 : Tryz.prog.underlying 63 = some (.struct (Tryz.prog.fieldsOf 63)):=by kernel_rfl
abbrev blockZ : Array Value:=#[.int .i64 0,.int .i64 0,.slice none 0 0]
theorem wholeS_c {w : World} {s : Nat} {a b c d : Addr} (h : w.heap[s]? = some (.cells #[.pointer (some a),.pointer (some b),.pointer (some c),.pointer (some d)] 54)) : Calls Tryz.prog 33 #[.pointer (some ⟨s,0,none⟩)] w fun e w' => e = .returned (.bool true) ∧ w' = w:=by
 have c0 : w.cell? ⟨s,0,none⟩ = some (.pointer (some a)):=cell_of_row _ _ 0 _ _ _ h
 have c1 : w.cell? ⟨s,1,none⟩ = some (.pointer (some b)):=cell_of_row _ _ 1 _ _ _ h
 have c2 : w.cell? ⟨s,2,none⟩ = some (.pointer (some c)):=cell_of_row _ _ 2 _ _ _ h
 have c3 : w.cell? ⟨s,3,none⟩ = some (.pointer (some d)):=cell_of_row _ _ 3 _ _ _ h
 clear h
 go_enter Tryz.func33,Tryz.ntmps33
 go_wp2
 go_ret
 exact ⟨rfl,rfl⟩
def thereB (n first many : Int) : Bool:=decide (many ≥ 1) && decide (first ≥ 0) && decide (first < n) && decide (many ≤ n - first)
theorem there_c (w : World) (n first many : Int) (hn : 0 ≤ n ∧ n ≤ 1000000) : Calls Tryz.prog 34 #[.int .i64 n,.int .i64 first,.int .i64 many] w fun e w' => e = .returned (.bool (thereB n first many)) ∧ w' = w:=by
 unfold thereB
 by_cases h1 : 1 ≤ many
 · by_cases h2 : 0 ≤ first
   · by_cases h3 : first < n
     · have hw : wrap64 (n - first) = n - first:=by unfold wrap64; omega
       by_cases h4 : many ≤ n - first
       · rw [show (decide (many ≥ 1) && decide (first ≥ 0) && decide (first < n) && decide (many ≤ n - first)) = true by simp [h1,h2,h3,h4]]
         go_enter Tryz.func34,Tryz.ntmps34
         go_wp2
         all_goals (go_ret; exact ⟨rfl,rfl⟩)
       · rw [show (decide (many ≥ 1) && decide (first ≥ 0) && decide (first < n) && decide (many ≤ n - first)) = false by simp [h1,h2,h3,h4]]
         go_enter Tryz.func34,Tryz.ntmps34
         go_wp2
         all_goals (go_ret; exact ⟨rfl,rfl⟩)
     · rw [show (decide (many ≥ 1) && decide (first ≥ 0) && decide (first < n) && decide (many ≤ n - first)) = false by simp [h1,h2,h3]]
       go_enter Tryz.func34,Tryz.ntmps34
       go_wp2
       all_goals (go_ret; exact ⟨rfl,rfl⟩)
   · rw [show (decide (many ≥ 1) && decide (first ≥ 0) && decide (first < n) && decide (many ≤ n - first)) = false by simp [h1,h2]]
     go_enter Tryz.func34,Tryz.ntmps34
     go_wp2
     all_goals (go_ret; exact ⟨rfl,rfl⟩)
 · rw [show (decide (many ≥ 1) && decide (first ≥ 0) && decide (first < n) && decide (many ≤ n - first)) = false by simp [h1]]
   go_enter Tryz.func34,Tryz.ntmps34
   go_wp2
   all_goals (go_ret; exact ⟨rfl,rfl⟩)
end Go.Proofs.YtbkmnboicihchaaGreat
namespace Go.Proofs.YtbkmnboicihchaaGreat
set_option maxRecDepth 100000
set_option linter.unusedSimpArgs false
set_option linter.unusedVariables false
open Go Go.RowKit Go.Shelf Go.Maps
theorem lenW_c {w : World} {p : Nat} {L : IL} (h : AxW w p L) (hgd : L.Ok) :
   Calls Tryz.prog 35 #[.pointer (some ⟨p,0,none⟩)] w fun e w' => e = .returned (.int .i64 (L.alive.length : Nat)) ∧ AxRd w' p L ∧ KeepA p w w':=by
 have HR:=Lib.hid (readyW_c h hgd)
 obtain ⟨m,hm⟩ : ∃ m,L.alive.length = m:=⟨_,rfl⟩
 have HM:=Lib.hid hm
 rw [hm]
 have la:=hgd.len
 have lb:=IL.alive_len L
 have hm2 : m ≤ 1000:=by omega
 clear h hm hgd la lb
 go_enter Tryz.func35,Tryz.ntmps35
 go_wp2_with (go_at_call 50; refine HR.out.mono ?_; rintro e w1 ⟨rfl,hR⟩; have HX:=Lib.hid hR; obtain ⟨Ai,ci,Al,cl,b,Aa,ca,Av,cv,hA⟩:=hR.1; have c4 : w1.cell? ⟨p,4,none⟩ = some (.slice Av m cv):=HM.out ▸ cell_of_row _ _ 4 _ _ _ hA.own; clear hA hR)
 go_ret
 exact ⟨rfl,HX.out⟩
theorem takeOut_c {w : World} {s p : Nat} {x y z : Addr} {L : IL} (h : w.heap[s]? = some (.cells #[.pointer (some ⟨p, 0, none⟩), .pointer (some x), .pointer (some y), .pointer (some z)] 54)) (hL : L.Ok) (hp : AxW w p L) (a b c d : Int) (ht : thereB (L.alive.length : Nat) a c = false) :
   Calls Tryz.prog 14 #[.pointer (some ⟨s,0,none⟩),.int .i64 a,.int .i64 b,.int .i64 c,.int .i64 d] w fun e w' => e = .returned (.tuple #[.agg blockZ,.int .i64 2]) ∧ KeepA p w w':=by
 obtain ⟨g,hg⟩ : ∃ g,g = w.heap.size:=⟨_,rfl⟩
 obtain ⟨W,hW⟩ : ∃ W,W = w.alloc (.cells blockZ 63):=⟨_,rfl⟩
 have hk : W.heap[g]? = some (.cells blockZ 63):=by rw [hW,hg]; exact heap_alloc_new _ _
 have hb : Below w.heap.size w W:=by rw [hW]; exact (Below.refl _ w).alloc (Nat.le_refl _) _
 have hsW:=(hb.block s (Array.getElem?_eq_some_iff.1 h).1).trans h
 have c0 : W.cell? ⟨s,0,none⟩ = some (.pointer (some ⟨p,0,none⟩)):=cell_of_row _ _ 0 _ _ _ hsW
 have HWH:=Lib.hid (wholeS_c hsW)
 have HLN:=Lib.hid (lenW_c (hp.below hb) hL)
 have hpg : p < g:=by rw [hg]; exact hp.lt
 have la:=hL.len
 have lb:=IL.alive_len L
 obtain ⟨m,hm⟩ : ∃ m,L.alive.length = m:=⟨_,rfl⟩
 rw [hm] at HLN ht lb
 have HTH:=Lib.hid (fun (w : World) => there_c w (m : Int) a c (by omega))
 rw [ht] at HTH
 have HG:=Lib.hid hg
 have HW:=Lib.hid hW
 have HK:=Lib.hid hk
 have HB:=Lib.hid hb
 have HI:=Lib.hid infB3
 have HPG:=Lib.hid hpg
 clear hg hW hk hb hsW h hL hp la lb hm ht hpg
 go_enter Tryz.func14,Tryz.ntmps14
 go_upto_region 1 with (fail)
 change Code.wp _ _ _ _ (w.alloc (.cells blockZ 63))
 rw [← HW.out,← HG.out]
 go_upto_region 4 with (first | (go_at_call 33; refine HWH.out.mono ?_; rintro e w' ⟨rfl,rfl⟩) | (go_at_call 35; refine HLN.out.mono ?_; rintro e w1 ⟨rfl,hR⟩; have HX:=Lib.hid hR; clear hR) | (go_at_call 34; refine (HTH.out _).mono ?_; rintro e w' ⟨rfl,rfl⟩) | fail)
 have HK1:=Lib.hid ((HX.out.2.block g (Array.getElem?_eq_some_iff.1 HK.out).1 (by have:=HPG.out; omega)).trans HK.out)
 go_wp2_with (first | (refine wpList_store_row rfl 63 _ _ rfl g blockZ rfl rfl 63 blockZ HK1.out (HI.out _ _ _) rfl (by kernel_rfl) ?_) | fail)
 refine bodyPost_ret (v:=.tuple #[.agg blockZ,.int .i64 2]) (results_cell_flagA (p:=10) (u:=11) rfl _ _ g 63 blockZ (0,0) _ rfl (setRow_heap _ _ _ _ _ _ HK1.out) undB3 rfl (HI.out _ _ _)) rfl ?_
 refine ⟨rfl,?_⟩
 have h1:=(KeepA.of (p:=p) HB.out).trans HX.out.2
 exact ⟨h1.os,h1.tape,h1.output,by simpa using h1.size,fun k hk hn => (setRow_other _ _ _ _ (by have:=HG.out; omega)).trans (h1.block k hk hn)⟩
def oneD (ra rn ca cn : Int) : ND:=⟨1,⟨0,0,0,⟨#[]⟩,false,0⟩,⟨#[]⟩,⟨ra,rn,ca,cn,false,false⟩,⟨0,0,0,0,false,false⟩,0⟩
theorem infC4 : ∀ a b c d : Value,(Tryz.prog.info? 36).map (·.size) = some (#[a,b,c,d] : Array Value).size:=fun _ _ _ _ => by kernel_rfl
theorem undC4 : Tryz.prog.underlying 36 = some (.struct (Tryz.prog.fieldsOf 36)):=by kernel_rfl
theorem at28_c (w : World) (r c : Int) : Calls Tryz.prog 12 #[.int .i64 r,.int .i64 c] w fun e w' => e = .returned (.agg #[.int .i64 0,.int .i64 r,.int .i64 0,.int .i64 c]) ∧ Below w.heap.size w w':=by
 obtain ⟨g,hg⟩ : ∃ g,g = w.heap.size:=⟨_,rfl⟩
 obtain ⟨W,hW⟩ : ∃ W,W = w.alloc (.cells #[.int .i64 0,.int .i64 0,.int .i64 0,.int .i64 0] 36):=⟨_,rfl⟩
 have hk : W.heap[g]? = some (.cells #[.int .i64 0,.int .i64 0,.int .i64 0,.int .i64 0] 36):=by rw [hW,hg]; exact heap_alloc_new _ _
 have hb : Below w.heap.size w W:=by rw [hW]; exact (Below.refl _ w).alloc (Nat.le_refl _) _
 have HG:=Lib.hid hg
 have HW:=Lib.hid hW
 have HK:=Lib.hid hk
 have HB:=Lib.hid hb
 have HI:=Lib.hid infC4
 clear hg hW hk hb
 go_enter Tryz.func12,Tryz.ntmps12
 go_upto_region 1 with (fail)
 change Code.wp _ _ _ _ (w.alloc (.cells #[.int .i64 0,.int .i64 0,.int .i64 0,.int .i64 0] 36))
 rw [← HW.out,← HG.out]
 go_wp2_with (first | (refine wpList_store_row rfl 36 _ _ rfl g #[.int .i64 0,.int .i64 r,.int .i64 0,.int .i64 c] rfl rfl 36 #[.int .i64 0,.int .i64 0,.int .i64 0,.int .i64 0] HK.out (HI.out _ _ _ _) rfl (by kernel_rfl) ?_) | fail)
 refine bodyPost_ret (v:=.agg #[.int .i64 0,.int .i64 r,.int .i64 0,.int .i64 c]) (results_cell_row rfl _ _ g 36 #[.int .i64 0,.int .i64 r,.int .i64 0,.int .i64 c] (0,0) _ rfl (setRow_heap _ _ _ _ _ _ HK.out) undC4 rfl (HI.out _ _ _ _)) rfl ?_
 exact ⟨rfl,below_row HB.out (by rw [HG.out]; exact Nat.le_refl _) _⟩
theorem one28_c (w : World) (ra rn ca cn : Int) : Calls Tryz.prog 11 #[.agg #[.int .i64 ra,.int .i64 rn,.int .i64 ca,.int .i64 cn]] w fun e w' => e = .returned (.agg (nodeA (oneD ra rn ca cn) none 0 0)) ∧ Below w.heap.size w w':=by
 obtain ⟨g,hg⟩ : ∃ g,g = w.heap.size:=⟨_,rfl⟩
 obtain ⟨W,hW⟩ : ∃ W,W = (w.alloc (.cells #[.int .i64 ra,.int .i64 rn,.int .i64 ca,.int .i64 cn] 36)).alloc (.cells (nodeA zD none 0 0) 34):=⟨_,rfl⟩
 obtain ⟨N,hN⟩ : ∃ N,N = nodeA (oneD ra rn ca cn) none 0 0:=⟨_,rfl⟩
 have hk0 : W.heap[g]? = some (.cells #[.int .i64 ra,.int .i64 rn,.int .i64 ca,.int .i64 cn] 36):=by rw [hW,hg]; exact (heapOld _ _ _ (by simp)).trans (heap_alloc_new _ _)
 have hk : W.heap[g + 1]? = some (.cells (nodeA zD none 0 0) 34):=by
   rw [hW,hg]; have:=heap_alloc_new (w.alloc (.cells #[.int .i64 ra,.int .i64 rn,.int .i64 ca,.int .i64 cn] 36)) (.cells (nodeA zD none 0 0) 34); rwa [World.size_alloc] at this
 have hb : Below w.heap.size w W:=by rw [hW]; exact ((Below.refl _ w).alloc (Nat.le_refl _) _).alloc (by simp) _
 have HG:=Lib.hid hg
 have HW:=Lib.hid hW
 have HK:=Lib.hid hk
 have HB:=Lib.hid hb
 have HR0:=Lib.hid (range_row4 hk0).1
 have HR1:=Lib.hid (range_row4 hk0).2
 have HIL:=Lib.hid (show ∀ a b : Value,(Tryz.prog.info? 27).map (·.size) = some [a,b].length from fun _ _ => infIk)
 have HN:=Lib.hid hN
 have HNS : Hid (N.size = 22 ∧ N.all (·.oneCell') = true):=Lib.hid (by rw [hN]; exact ⟨rfl,node_one _ _ _ _⟩)
 rw [← hN]
 clear hg hW hk hk0 hb hN
 go_enter Tryz.func11,Tryz.ntmps11
 go_upto_region 1 with (first | (refine wpList_nodeVar rfl rfl (w.heap.size + 1) (by simp) ?_) | fail)
 change Code.wp _ _ _ _ ((w.alloc (.cells #[.int .i64 ra,.int .i64 rn,.int .i64 ca,.int .i64 cn] 36)).alloc (.cells (nodeA zD none 0 0) 34))
 rw [← HW.out,← HG.out]
 go_wp2_with (first | (refine wpList_mid rfl 27 _ rfl g 0 rfl [.int .i64 ra,.int .i64 rn] _ HR0.out ikUnd rfl (HIL.out _ _) ?_) | (refine wpList_mid rfl 27 _ rfl g 2 rfl [.int .i64 ca,.int .i64 cn] _ HR1.out ikUnd rfl (HIL.out _ _) ?_) | (refine wpList_buildSome rfl 34 _ rfl N ?_ ?_; focus (rw [HN.out]; kernel_rfl)) | (refine wpList_store_row rfl 34 _ _ rfl (g + 1) N rfl rfl 34 (nodeA zD none 0 0) HK.out (infS HNS.out.1) HNS.out.1.symm HNS.out.2 ?_) | fail)
 refine bodyPost_ret (v:=.agg N) (results_cell_row rfl _ _ (g + 1) 34 N (0,0) _ rfl (setRow_heap _ _ _ _ _ _ HK.out) undN rfl (infS HNS.out.1)) rfl ?_
 exact ⟨rfl,below_row HB.out (by rw [HG.out]; omega) _⟩
end Go.Proofs.YtbkmnboicihchaaGreat
