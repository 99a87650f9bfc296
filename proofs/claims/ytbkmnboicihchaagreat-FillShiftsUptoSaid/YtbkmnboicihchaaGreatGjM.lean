/- the reference's corner: a corner that goes so far. -/
import Derived.Test.YtbkmnboicihchaaGreatIoIpSrQdQvGiCu
namespace Go.Proofs.YtbkmnboicihchaaGreat
set_option maxRecDepth 100000
set_option maxHeartbeats 8000000
set_option linter.unusedSimpArgs false
set_option linter.unusedVariables false
open Go Go.RowKit Go.Shelf Go.Maps
theorem undCnr : Tryz.prog.underlying 29 = some (.struct (Tryz.prog.fieldsOf 29)):=by kernel_rfl
theorem infCnr : ∀ a b c d e f : Value,(Tryz.prog.info? 29).map (·.size) = some (#[a,b,c,d,e,f] : Array Value).size:=fun _ _ _ _ _ _ => by kernel_rfl
noncomputable def cornC : Code:=Tryz.f49.body.getD .skip
theorem cor6 (u0 u1 u3 u6 u7 u8 u9 u11 u12 u13 u14 u15 u16 u17 u18 u19 u20 u21 u22 u23 u24 u25 u26 u27 u28 u29 u30 u31 u32 u33 u34 u35 u36 u37 u38 u39 u40 u41 u42 u43 u44 u45 u46 u47 u48 : Value) (W : World) (R0 : Ending → World → Prop) (lo g g1 : Nat) (A2 : Option Addr) (nk c2 : Nat) (rt ra rn ca cn ya yn : Int) (fr fc fl : Bool)
   (hg : W.heap[g]? = some (.cells #[.int .i64 ra,.int .i64 rn,.int .i64 ca,.int .i64 cn,.bool fr,.bool fc] 29)) (hz : W.heap[g1]? = some (.cells #[.int .i64 0,.int .i64 0,.int .i64 0,.int .i64 0,.bool false,.bool false] 29)) (hne : g1 ≠ g) (hlo : lo ≤ g ∧ lo ≤ g1 ∧ lo ≤ W.heap.size)
   (hmc : ∀ wx,Below W.heap.size W wx → Calls Tryz.prog 63 #[.slice A2 nk c2,.agg #[.int .i64 ca,.int .i64 cn],.int .i64 rt] wx fun e w' => e = .returned (.tuple #[.agg #[.int .i64 ya,.int .i64 yn],.bool fl]) ∧ Below wx.heap.size wx w')
   (h1 : fc = true → ∀ W',Below lo W W' → R0 (.returned (.tuple #[.agg #[.int .i64 ra,.int .i64 rn,.int .i64 ca,.int .i64 cn,.bool fr,.bool fc],.bool true])) W')
   (h2 : fc = false → fl = true → ∀ W',Below lo W W' → R0 (.returned (.tuple #[.agg #[.int .i64 ra,.int .i64 rn,.int .i64 ya,.int .i64 yn,.bool fr,.bool fc],.bool true])) W')
   (h3 : fc = false → fl = false → ∀ W',Below lo W W' → R0 (.returned (.tuple #[.agg #[.int .i64 ra,.int .i64 rn,.int .i64 ca,.int .i64 cn,.bool fr,.bool fc],.bool false])) W') :
   (fromRegion 6 cornC).wp Tryz.prog (bodyPost Tryz.prog Tryz.f49 R0) ⟨#[u0,u1,.slice A2 nk c2,u3,.int .i64 rt,.pointer (some ⟨g,0,none⟩),u6,u7,u8,u9,.pointer (some ⟨g1,0,none⟩),u11,u12,u13,u14,u15,u16,u17,u18,u19,u20,u21,u22,u23,u24,u25,u26,u27,u28,u29,u30,u31,u32,u33,u34,u35,u36,u37,u38,u39,u40,u41,u42,u43,u44,u45,u46,u47,u48],[]⟩ W:=by
 dsimp only
 have hkp : ∀ wx,Below W.heap.size W wx → wx.heap[g]? = some (.cells #[.int .i64 ra,.int .i64 rn,.int .i64 ca,.int .i64 cn,.bool fr,.bool fc] 29) ∧ wx.heap[g1]? = some (.cells #[.int .i64 0,.int .i64 0,.int .i64 0,.int .i64 0,.bool false,.bool false] 29):=fun wx h => ⟨(h.block g (Array.getElem?_eq_some_iff.1 hg).1).trans hg,(h.block g1 (Array.getElem?_eq_some_iff.1 hz).1).trans hz⟩
 have d5 : W.cell? ⟨g,5,none⟩ = some (.bool fc):=cell_of_row _ _ 5 _ _ _ hg
 have hrg : W.rangeAt g 2 [.int .i64 ca,.int .i64 cn]:=fun i v hv => by
   match i,hv with
   | 0,hv => cases hv; exact cell_of_row _ _ 2 _ _ _ hg
   | 1,hv => cases hv; exact cell_of_row _ _ 3 _ _ _ hg
 have HIC:=Lib.hid infCnr
 have HIA:=Lib.hid (show ∀ a b : Value,(Tryz.prog.info? 27).map (·.size) = some (#[a,b] : Array Value).size from fun _ _ => infIk)
 have HIL:=Lib.hid (show ∀ a b : Value,(Tryz.prog.info? 27).map (·.size) = some [a,b].length from fun _ _ => infIk)
 have HG:=Lib.hid (And.intro hg (And.intro hz (And.intro hne hlo)))
 have HKP:=Lib.hid hkp
 have HRG:=Lib.hid hrg
 have HM:=Lib.hid (hmc W (Below.refl _ _))
 have H1:=Lib.hid h1
 have H2:=Lib.hid h2
 have H3:=Lib.hid h3
 clear hg hz hne hlo hkp hmc h1 h2 h3 hrg
 conv => arg 2; whnf; repeat (arg 2; whnf)
 cases fc with
 | true =>
   go_wp2_with (first | (refine wpList_row rfl 29 _ rfl g rfl 29 #[.int .i64 ra,.int .i64 rn,.int .i64 ca,.int .i64 cn,.bool fr,.bool true] (0,0) _ HG.out.1 undCnr rfl (HIC.out _ _ _ _ _ _) ?_) | (refine wpList_store_row rfl 29 _ _ rfl g1 #[.int .i64 ra,.int .i64 rn,.int .i64 ca,.int .i64 cn,.bool fr,.bool true] rfl rfl 29 #[.int .i64 0,.int .i64 0,.int .i64 0,.int .i64 0,.bool false,.bool false] HG.out.2.1 (HIC.out _ _ _ _ _ _) rfl (by kernel_rfl) ?_) | fail)
   refine bodyPost_ret (v:=.tuple #[.agg #[.int .i64 ra,.int .i64 rn,.int .i64 ca,.int .i64 cn,.bool fr,.bool true],.bool true]) (results_cell_flagA (p:=10) (u:=11) rfl _ _ g1 29 #[.int .i64 ra,.int .i64 rn,.int .i64 ca,.int .i64 cn,.bool fr,.bool true] (0,0) _ rfl (setRow_heap _ _ _ _ _ _ HG.out.2.1) undCnr rfl (HIC.out _ _ _ _ _ _)) rfl ?_
   exact H1.out trivial _ (below_row (Below.refl _ _) HG.out.2.2.2.2.1 _)
 | false =>
   go_upto_region 8 with (first | (refine wpList_mid rfl 27 _ rfl g 2 rfl [.int .i64 ca,.int .i64 cn] _ HRG.out ikUnd rfl (HIL.out _ _) ?_) | (go_at_call 63; refine HM.out.mono ?_; rintro e w2 ⟨rfl,hb2⟩; have HB2:=Lib.hid hb2; clear hb2) | (refine wpList_store_row rfl 27 _ _ rfl w2.heap.size #[.int .i64 ya,.int .i64 yn] rfl rfl 27 #[.int .i64 0,.int .i64 0] (heap_alloc_new _ _) (HIA.out _ _) rfl (by kernel_rfl) ?_) | fail)
   obtain ⟨g14,hg14⟩ : ∃ x,x = w2.heap.size:=⟨_,rfl⟩
   obtain ⟨w3,hw3⟩ : ∃ x,x = (w2.alloc (.cells #[.int .i64 0,.int .i64 0] 27)).setRow w2.heap.size #[.int .i64 ya,.int .i64 yn]:=⟨_,rfl⟩
   have hb3 : Below w2.heap.size w2 w3:=by rw [hw3]; exact below_row ((Below.refl _ w2).alloc (Nat.le_refl _) _) (Nat.le_refl _) _
   have hk3 : w3.heap[g14]? = some (.cells #[.int .i64 ya,.int .i64 yn] 27):=by rw [hw3,hg14]; exact setRow_heap _ _ _ _ _ _ (heap_alloc_new _ _)
   have hbw : Below W.heap.size W w3:=HB2.out.trans (hb3.mono HB2.out.size)
   have HR3:=Lib.hid (And.intro (HKP.out w3 hbw).1 (And.intro (HKP.out w3 hbw).2 (And.intro hk3 hbw)))
   change Code.wp _ _ _ _ ((w2.alloc (.cells #[.int .i64 0,.int .i64 0] 27)).setRow w2.heap.size #[.int .i64 ya,.int .i64 yn])
   rw [← hw3,← hg14]
   clear hw3 hb3 hk3 hbw hg14 d5
   cases fl with
   | false =>
     go_wp2_with (first | (refine wpList_row rfl 29 _ rfl g rfl 29 #[.int .i64 ra,.int .i64 rn,.int .i64 ca,.int .i64 cn,.bool fr,.bool false] (0,0) _ HR3.out.1 undCnr rfl (HIC.out _ _ _ _ _ _) ?_) | (refine wpList_store_row rfl 29 _ _ rfl g1 #[.int .i64 ra,.int .i64 rn,.int .i64 ca,.int .i64 cn,.bool fr,.bool false] rfl rfl 29 #[.int .i64 0,.int .i64 0,.int .i64 0,.int .i64 0,.bool false,.bool false] HR3.out.2.1 (HIC.out _ _ _ _ _ _) rfl (by kernel_rfl) ?_) | fail)
     refine bodyPost_ret (v:=.tuple #[.agg #[.int .i64 ra,.int .i64 rn,.int .i64 ca,.int .i64 cn,.bool fr,.bool false],.bool false]) (results_cell_flagA (p:=10) (u:=11) rfl _ _ g1 29 #[.int .i64 ra,.int .i64 rn,.int .i64 ca,.int .i64 cn,.bool fr,.bool false] (0,0) _ rfl (setRow_heap _ _ _ _ _ _ HR3.out.2.1) undCnr rfl (HIC.out _ _ _ _ _ _)) rfl ?_
     exact H3.out trivial trivial _ (below_row (HR3.out.2.2.2.mono HG.out.2.2.2.2.2) HG.out.2.2.2.2.1 _)
   | true =>
     have hth : w3.there g 2 2:=there_of HR3.out.1 (by simp)
     have hs2 : (w3.setCells g 2 [.int .i64 ya,.int .i64 yn]).heap[g]? = some (.cells #[.int .i64 ra,.int .i64 rn,.int .i64 ya,.int .i64 yn,.bool fr,.bool false] 29):=heap_setCell_same _ _ _ _ _ _ (heap_setCell_same _ _ _ _ _ _ HR3.out.1)
     have hz2 : (w3.setCells g 2 [.int .i64 ya,.int .i64 yn]).heap[g1]? = some (.cells #[.int .i64 0,.int .i64 0,.int .i64 0,.int .i64 0,.bool false,.bool false] 29):=(heap_setCells_far g HG.out.2.2.1 _ _ _).trans HR3.out.2.1
     have hbb : Below lo W (w3.setCells g 2 [.int .i64 ya,.int .i64 yn]):=(HR3.out.2.2.2.mono HG.out.2.2.2.2.2).trans (below_setCells2 HG.out.2.2.2.1 _ _ _)
     have HTH:=Lib.hid hth
     have HS2:=Lib.hid (And.intro hs2 (And.intro hz2 hbb))
     obtain ⟨w4,hw4⟩ : ∃ x,x = w3.setCells g 2 [.int .i64 ya,.int .i64 yn]:=⟨_,rfl⟩
     rw [← hw4] at HS2
     have HW4:=Lib.hid hw4
     clear hth hs2 hz2 hbb hw4
     go_wp2_with (first | (refine wpList_row rfl 27 _ rfl g14 rfl 27 #[.int .i64 ya,.int .i64 yn] (0,0) _ HR3.out.2.2.1 ikUnd rfl (HIA.out _ _) ?_) | (refine wpList_store_mid rfl 27 _ _ rfl g 2 #[.int .i64 ya,.int .i64 yn] rfl rfl HTH.out (HIA.out _ _) (by kernel_rfl) ?_; rw [← HW4.out]) | (refine wpList_row rfl 29 _ rfl g rfl 29 #[.int .i64 ra,.int .i64 rn,.int .i64 ya,.int .i64 yn,.bool fr,.bool false] (0,0) _ HS2.out.1 undCnr rfl (HIC.out _ _ _ _ _ _) ?_) | (refine wpList_store_row rfl 29 _ _ rfl g1 #[.int .i64 ra,.int .i64 rn,.int .i64 ya,.int .i64 yn,.bool fr,.bool false] rfl rfl 29 #[.int .i64 0,.int .i64 0,.int .i64 0,.int .i64 0,.bool false,.bool false] HS2.out.2.1 (HIC.out _ _ _ _ _ _) rfl (by kernel_rfl) ?_) | fail)
     refine bodyPost_ret (v:=.tuple #[.agg #[.int .i64 ra,.int .i64 rn,.int .i64 ya,.int .i64 yn,.bool fr,.bool false],.bool true]) (results_cell_flagA (p:=10) (u:=11) rfl _ _ g1 29 #[.int .i64 ra,.int .i64 rn,.int .i64 ya,.int .i64 yn,.bool fr,.bool false] (0,0) _ rfl (setRow_heap _ _ _ _ _ _ HS2.out.2.1) undCnr rfl (HIC.out _ _ _ _ _ _)) rfl ?_
     exact H2.out trivial trivial _ (below_row HS2.out.2.2 HG.out.2.2.2.2.1 _)
theorem goneX_mv {l : List Ik} {d : Int} {f : Bool} {x : Ik} : goneX l d f x = if f = true then some x else if (movedI l d x).2 = true then some (movedI l d x).1 else none:=by
 unfold goneX movedI
 cases f with
 | true => rfl
 | false =>
   rw [if_neg (by decide),if_neg (by decide)]
   cases goneI l d x <;> rfl
theorem rcorner_c {w : World} {base base2 : Nat} {A1 A2 : Option Addr} {c1 c2 : Nat} {R K : List Ik} (hR : w.ownsRow base 27 2 (.slice A1 R.length c1) R.length (ikCells R)) (hK : w.ownsRow base2 27 2 (.slice A2 K.length c2) K.length (ikCells K)) (hRl : R.length ≤ 1000) (hKl : K.length ≤ 1000) (cn : Cn) (dn rt : Int) (hdn : -1000000 ≤ dn ∧ dn ≤ 1000000) (hrt : -1000000 ≤ rt ∧ rt ≤ 1000000) :
   Calls Tryz.prog 49 #[.agg cn.cells.toArray,.slice A1 R.length c1,.slice A2 K.length c2,.int .i64 dn,.int .i64 rt] w fun e w' => ∃ (c' : Cn) (ok : Bool),e = .returned (.tuple #[.agg c'.cells.toArray,.bool ok]) ∧ (if ok = true then goneC ⟨R,K,dn,rt⟩ cn = some c' else goneC ⟨R,K,dn,rt⟩ cn = none) ∧ Below w.heap.size w w':=by
 obtain ⟨g,hg⟩ : ∃ g,g = w.heap.size:=⟨_,rfl⟩
 obtain ⟨ra,rn,ca,cc,fr,fc⟩:=cn
 obtain ⟨W,hW⟩ : ∃ W,W = (w.alloc (.cells #[.int .i64 ra,.int .i64 rn,.int .i64 ca,.int .i64 cc,.bool fr,.bool fc] 29)).alloc (.cells #[.int .i64 0,.int .i64 0,.int .i64 0,.int .i64 0,.bool false,.bool false] 29):=⟨_,rfl⟩
 have hb : Below w.heap.size w W:=by rw [hW]; exact ((Below.refl _ w).alloc (Nat.le_refl _) _).alloc (by simp) _
 have hk0 : W.heap[g]? = some (.cells #[.int .i64 ra,.int .i64 rn,.int .i64 ca,.int .i64 cc,.bool fr,.bool fc] 29):=by rw [hW,hg]; exact (heapOld _ _ _ (by simp)).trans (heap_alloc_new _ _)
 have hk1 : W.heap[g + 1]? = some (.cells #[.int .i64 0,.int .i64 0,.int .i64 0,.int .i64 0,.bool false,.bool false] 29):=by
   rw [hW,hg]; have:=heap_alloc_new (w.alloc (.cells #[.int .i64 ra,.int .i64 rn,.int .i64 ca,.int .i64 cc,.bool fr,.bool fc] 29)) (.cells #[.int .i64 0,.int .i64 0,.int .i64 0,.int .i64 0,.bool false,.bool false] 29); rwa [World.size_alloc] at this
 have hgc : goneC ⟨R,K,dn,rt⟩ ⟨ra,rn,ca,cc,fr,fc⟩ = match goneX R dn fr ⟨ra,rn⟩,goneX K rt fc ⟨ca,cc⟩ with | some r,some k => some ⟨r.a,r.n,k.a,k.n,fr,fc⟩ | _,_ => none:=rfl
 rw [goneX_mv,goneX_mv] at hgc
 have hMR:=fun (wx : World) (h : Below w.heap.size w wx) => rmoved_c (own_blk_kp hR h) hRl ⟨ra,rn⟩ dn hdn
 have hMC:=fun (wx : World) (h : Below w.heap.size w wx) => rmoved_c (own_blk_kp hK h) hKl ⟨ca,cc⟩ rt hrt
 rcases hmr : movedI R dn ⟨ra,rn⟩ with ⟨⟨xa,xn⟩,fx⟩
 rcases hmc : movedI K rt ⟨ca,cc⟩ with ⟨⟨ya,yn⟩,fy⟩
 rw [hmr,hmc] at hgc
 rw [hmr] at hMR
 rw [hmc] at hMC
 dsimp only at hgc hMR hMC
 generalize goneC ⟨R,K,dn,rt⟩ ⟨ra,rn,ca,cc,fr,fc⟩ = gc at hgc ⊢
 have e6:=cut_from 6 cornC
 have hend : ∀ (xra xrn : Int) (w5 : World) (u0 u1 u3 u6 u7 u8 u9 u11 u12 u13 u14 u15 u16 u17 u18 u19 u20 u21 u22 u23 u24 u25 u26 u27 u28 u29 u30 u31 u32 u33 u34 u35 u36 u37 u38 u39 u40 u41 u42 u43 u44 u45 u46 u47 u48 : Value), w5.heap[g]? = some (.cells #[.int .i64 xra, .int .i64 xrn, .int .i64 ca, .int .i64 cc, .bool fr, .bool fc] 29) → w5.heap[g + 1]? = some (.cells #[.int .i64 0, .int .i64 0, .int .i64 0, .int .i64 0, .bool false, .bool false] 29) → Below w.heap.size w w5 → g + 2 ≤ w5.heap.size →
     (gc = match (if fc = true then some (⟨ca,cc⟩ : Ik) else if fy = true then some ⟨ya,yn⟩ else none) with | some k => some ⟨xra,xrn,k.a,k.n,fr,fc⟩ | none => none) →
     (fromRegion 6 cornC).wp Tryz.prog (bodyPost Tryz.prog Tryz.f49 (fun e w' => ∃ (c' : Cn) (ok : Bool),e = .returned (.tuple #[.agg c'.cells.toArray,.bool ok]) ∧ (if ok = true then gc = some c' else gc = none) ∧ Below w.heap.size w w')) ⟨#[u0,u1,.slice A2 K.length c2,u3,.int .i64 rt,.pointer (some ⟨g,0,none⟩),u6,u7,u8,u9,.pointer (some ⟨g + 1,0,none⟩),u11,u12,u13,u14,u15,u16,u17,u18,u19,u20,u21,u22,u23,u24,u25,u26,u27,u28,u29,u30,u31,u32,u33,u34,u35,u36,u37,u38,u39,u40,u41,u42,u43,u44,u45,u46,u47,u48],[]⟩ w5:=by
   intro xra xrn w5 u0 u1 u3 u6 u7 u8 u9 u11 u12 u13 u14 u15 u16 u17 u18 u19 u20 u21 u22 u23 u24 u25 u26 u27 u28 u29 u30 u31 u32 u33 u34 u35 u36 u37 u38 u39 u40 u41 u42 u43 u44 u45 u46 u47 u48 h5 h5z hb5 hs5 hgc5
   refine cor6 u0 u1 u3 u6 u7 u8 u9 u11 u12 u13 u14 u15 u16 u17 u18 u19 u20 u21 u22 u23 u24 u25 u26 u27 u28 u29 u30 u31 u32 u33 u34 u35 u36 u37 u38 u39 u40 u41 u42 u43 u44 u45 u46 u47 u48 w5 _ w.heap.size g (g + 1) A2 K.length c2 rt xra xrn ca cc ya yn fr fc fy h5 h5z (by omega) ⟨by omega,by omega,by omega⟩ (fun wx h => hMC wx (hb5.trans (h.mono (by omega)))) ?_ ?_ ?_
   · intro e W' hW'
     subst e
     exact ⟨⟨xra,xrn,ca,cc,fr,true⟩,true,rfl,by rw [if_pos rfl,hgc5]; rfl,hb5.trans hW'⟩
   · intro e e2 W' hW'
     subst e e2
     exact ⟨⟨xra,xrn,ya,yn,fr,false⟩,true,rfl,by rw [if_pos rfl,hgc5]; rfl,hb5.trans hW'⟩
   · intro e e2 W' hW'
     subst e e2
     exact ⟨⟨xra,xrn,ca,cc,fr,false⟩,false,rfl,by rw [if_neg (by decide),hgc5]; rfl,hb5.trans hW'⟩
 obtain ⟨CO,hCO⟩ : ∃ CO,CO = fromRegion 6 cornC:=⟨_,rfl⟩
 rw [← hCO] at e6 hend
 clear hCO
 dsimp only at hend
 have d4 : W.cell? ⟨g,4,none⟩ = some (.bool fr):=cell_of_row _ _ 4 _ _ _ hk0
 have hrg : W.rangeAt g 0 [.int .i64 ra,.int .i64 rn]:=fun i v hv => by
   match i,hv with
   | 0,hv => cases hv; exact cell_of_row _ _ 0 _ _ _ hk0
   | 1,hv => cases hv; exact cell_of_row _ _ 1 _ _ _ hk0
 have hkp : ∀ wx,Below W.heap.size W wx → wx.heap[g]? = some (.cells #[.int .i64 ra,.int .i64 rn,.int .i64 ca,.int .i64 cc,.bool fr,.bool fc] 29) ∧ wx.heap[g + 1]? = some (.cells #[.int .i64 0,.int .i64 0,.int .i64 0,.int .i64 0,.bool false,.bool false] 29):=fun wx h => ⟨(h.block g (Array.getElem?_eq_some_iff.1 hk0).1).trans hk0,(h.block (g + 1) (Array.getElem?_eq_some_iff.1 hk1).1).trans hk1⟩
 have hWs : W.heap.size = g + 2:=by rw [hW,hg]; simp
 have HEND:=Lib.hid hend
 have HIC:=Lib.hid infCnr
 have HIA:=Lib.hid (show ∀ a b : Value,(Tryz.prog.info? 27).map (·.size) = some (#[a,b] : Array Value).size from fun _ _ => infIk)
 have HIL:=Lib.hid (show ∀ a b : Value,(Tryz.prog.info? 27).map (·.size) = some [a,b].length from fun _ _ => infIk)
 have HW:=Lib.hid hW
 have HG:=Lib.hid hg
 have HK:=Lib.hid (And.intro hk0 (And.intro hk1 (And.intro hb (And.intro hWs (show w.heap.size ≤ g by omega)))))
 have HKP:=Lib.hid hkp
 have HRG:=Lib.hid hrg
 have HM:=Lib.hid (hMR W hb)
 have HGC:=Lib.hid hgc
 obtain ⟨nr,hnr⟩ : ∃ n,n = R.length:=⟨_,rfl⟩
 obtain ⟨nk,hnk⟩ : ∃ n,n = K.length:=⟨_,rfl⟩
 rw [← hnr] at HM ⊢
 rw [← hnk] at HEND ⊢
 clear hk0 hk1 hb hW hg hkp hrg hMR hMC hgc hend hWs hR hK hRl hKl hdn hrt hmr hmc hnr hnk
 dsimp only [Cn.cells]
 go_enter Tryz.func49,Tryz.ntmps49
 change Code.wp Tryz.prog cornC _ _ _
 rw [← e6]
 clear e6
 conv => arg 2; whnf; repeat (arg 2; whnf)
 go_upto_region 1 with (fail)
 change Code.wp _ _ _ _ ((w.alloc (.cells #[.int .i64 ra,.int .i64 rn,.int .i64 ca,.int .i64 cc,.bool fr,.bool fc] 29)).alloc (.cells #[.int .i64 0,.int .i64 0,.int .i64 0,.int .i64 0,.bool false,.bool false] 29))
 rw [← HW.out,← HG.out]
 cases fr with
 | true =>
   go_wp2_with (fail)
   exact HEND.out ra rn _ _ _ _ _ _ _ _ _ _ _ _ _ _ _ _ _ _ _ _ _ _ _ _ _ _ _ _ _ _ _ _ _ _ _ _ _ _ _ _ _ _ _ _ _ _ HK.out.1 HK.out.2.1 HK.out.2.2.1 (by rw [HK.out.2.2.2.1]; exact Nat.le_refl _) (by rw [HGC.out]; cases fc <;> cases fy <;> rfl)
 | false =>
   go_upto_region 3 with (first | (refine wpList_mid rfl 27 _ rfl g 0 rfl [.int .i64 ra,.int .i64 rn] _ HRG.out ikUnd rfl (HIL.out _ _) ?_) | (go_at_call 63; refine HM.out.mono ?_; rintro e w2 ⟨rfl,hb2⟩; have HB2:=Lib.hid hb2; clear hb2) | (refine wpList_store_row rfl 27 _ _ rfl w2.heap.size #[.int .i64 xa,.int .i64 xn] rfl rfl 27 #[.int .i64 0,.int .i64 0] (heap_alloc_new _ _) (HIA.out _ _) rfl (by kernel_rfl) ?_) | fail)
   obtain ⟨g12,hg12⟩ : ∃ x,x = w2.heap.size:=⟨_,rfl⟩
   obtain ⟨w3,hw3⟩ : ∃ x,x = (w2.alloc (.cells #[.int .i64 0,.int .i64 0] 27)).setRow w2.heap.size #[.int .i64 xa,.int .i64 xn]:=⟨_,rfl⟩
   have hb3 : Below w2.heap.size w2 w3:=by rw [hw3]; exact below_row ((Below.refl _ w2).alloc (Nat.le_refl _) _) (Nat.le_refl _) _
   have hk3 : w3.heap[g12]? = some (.cells #[.int .i64 xa,.int .i64 xn] 27):=by rw [hw3,hg12]; exact setRow_heap _ _ _ _ _ _ (heap_alloc_new _ _)
   have hbw : Below W.heap.size W w3:=HB2.out.trans (hb3.mono HB2.out.size)
   have HR3:=Lib.hid (And.intro (HKP.out w3 hbw).1 (And.intro (HKP.out w3 hbw).2 (And.intro hk3 hbw)))
   change Code.wp _ _ _ _ ((w2.alloc (.cells #[.int .i64 0,.int .i64 0] 27)).setRow w2.heap.size #[.int .i64 xa,.int .i64 xn])
   rw [← hw3,← hg12]
   clear hw3 hb3 hk3 hbw hg12 d4
   cases fx with
   | false =>
     go_wp2_with (first | (refine wpList_row rfl 29 _ rfl g rfl 29 #[.int .i64 ra,.int .i64 rn,.int .i64 ca,.int .i64 cc,.bool false,.bool fc] (0,0) _ HR3.out.1 undCnr rfl (HIC.out _ _ _ _ _ _) ?_) | (refine wpList_store_row rfl 29 _ _ rfl (g + 1) #[.int .i64 ra,.int .i64 rn,.int .i64 ca,.int .i64 cc,.bool false,.bool fc] rfl rfl 29 #[.int .i64 0,.int .i64 0,.int .i64 0,.int .i64 0,.bool false,.bool false] HR3.out.2.1 (HIC.out _ _ _ _ _ _) rfl (by kernel_rfl) ?_) | fail)
     refine bodyPost_ret (v:=.tuple #[.agg #[.int .i64 ra,.int .i64 rn,.int .i64 ca,.int .i64 cc,.bool false,.bool fc],.bool false]) (results_cell_flagA (p:=10) (u:=11) rfl _ _ (g + 1) 29 #[.int .i64 ra,.int .i64 rn,.int .i64 ca,.int .i64 cc,.bool false,.bool fc] (0,0) _ rfl (setRow_heap _ _ _ _ _ _ HR3.out.2.1) undCnr rfl (HIC.out _ _ _ _ _ _)) rfl ?_
     exact ⟨⟨ra,rn,ca,cc,false,fc⟩,false,rfl,by rw [if_neg (by decide),HGC.out]; cases fc <;> cases fy <;> rfl,below_row (HK.out.2.2.1.trans (HR3.out.2.2.2.mono HK.out.2.2.1.size)) (by have:=HK.out.2.2.2.2; omega) _⟩
   | true =>
     have hth : w3.there g 0 2:=there_of HR3.out.1 (by simp)
     have hs2 : (w3.setCells g 0 [.int .i64 xa,.int .i64 xn]).heap[g]? = some (.cells #[.int .i64 xa,.int .i64 xn,.int .i64 ca,.int .i64 cc,.bool false,.bool fc] 29):=heap_setCell_same _ _ _ _ _ _ (heap_setCell_same _ _ _ _ _ _ HR3.out.1)
     have hz2 : (w3.setCells g 0 [.int .i64 xa,.int .i64 xn]).heap[g + 1]? = some (.cells #[.int .i64 0,.int .i64 0,.int .i64 0,.int .i64 0,.bool false,.bool false] 29):=(heap_setCells_far g (by omega) _ _ _).trans HR3.out.2.1
     have hbb : Below w.heap.size w (w3.setCells g 0 [.int .i64 xa,.int .i64 xn]):=(HK.out.2.2.1.trans (HR3.out.2.2.2.mono HK.out.2.2.1.size)).trans (below_setCells2 HK.out.2.2.2.2 _ _ _)
     have hsz : g + 2 ≤ (w3.setCells g 0 [.int .i64 xa,.int .i64 xn]).heap.size:=by rw [sz_setCells]; have:=HR3.out.2.2.2.size; have:=HK.out.2.2.2.1; omega
     have HTH:=Lib.hid hth
     have HS2:=Lib.hid (And.intro hs2 (And.intro hz2 (And.intro hbb hsz)))
     obtain ⟨w4,hw4⟩ : ∃ x,x = w3.setCells g 0 [.int .i64 xa,.int .i64 xn]:=⟨_,rfl⟩
     rw [← hw4] at HS2
     have HW4:=Lib.hid hw4
     clear hth hs2 hz2 hbb hw4 hsz
     go_wp2_with (first | (refine wpList_row rfl 27 _ rfl g12 rfl 27 #[.int .i64 xa,.int .i64 xn] (0,0) _ HR3.out.2.2.1 ikUnd rfl (HIA.out _ _) ?_) | (refine wpList_store_mid rfl 27 _ _ rfl g 0 #[.int .i64 xa,.int .i64 xn] rfl rfl HTH.out (HIA.out _ _) (by kernel_rfl) ?_; rw [← HW4.out]) | fail)
     exact HEND.out xa xn _ _ _ _ _ _ _ _ _ _ _ _ _ _ _ _ _ _ _ _ _ _ _ _ _ _ _ _ _ _ _ _ _ _ _ _ _ _ _ _ _ _ _ _ _ _ HS2.out.1 HS2.out.2.1 HS2.out.2.2.1 HS2.out.2.2.2 (by rw [HGC.out]; cases fc <;> cases fy <;> rfl)
end Go.Proofs.YtbkmnboicihchaaGreat
