/- Fill: the plain laws of FillShifts,FillBack and FillReads. fill's way and gone. fill's gone: an id that goes so many places. fill.Shift's first closure: a corner in memory goes its way. fill.Shift's second closure: a node goes its way. -/
import Derived.Test.YtjobojfaocihfaaGreatMpHaHdIaIbIeIg
import Derived.Test.YtjobojfaocihfaaGreatIcHgIh
import Derived.Test.YtjobojfaocihfaaGreatTw
import Derived.Test.YtjobojfaocihfaaGreatCyMgMhRh
namespace Go.Proofs.YtjobojfaocihfaaGreat
set_option linter.unusedSimpArgs false
set_option linter.unusedVariables false
structure Cl where
 row : Ik
 col : Ik
deriving DecidableEq
def wayI (l : List Ik) (x y : Ik) : Option Int :=
 match placeL l x,placeL l y with
 | some p,some q => some ((q : Int) - p)
 | _,_ => none
theorem wayI_some {l : List Ik} {x y : Ik} {d : Int} (h : wayI l x y = some d) : ∃ p q : Nat,placeL l x = some p ∧ placeL l y = some q ∧ d = (q : Int) - p:=by
 unfold wayI at h
 cases h1 : placeL l x with
 | none => rw [h1] at h; cases h
 | some p =>
  cases h2 : placeL l y with
  | none => rw [h1,h2] at h; cases h
  | some q => rw [h1,h2] at h; exact ⟨p,q,rfl,rfl,(Option.some.inj h).symm⟩
def shiftT (rows cols : List Ik) (x y : Cl) (t : Tr) : Tr :=
 match wayI rows x.row y.row,wayI cols x.col y.col with
 | some d,some r => goneT ⟨rows,cols,d,r⟩ t
 | _,_ => t
theorem shiftT_of {rows cols : List Ik} {x y : Cl} {d r : Int} (h1 : wayI rows x.row y.row = some d) (h2 : wayI cols x.col y.col = some r) (t : Tr) : shiftT rows cols x y t = goneT ⟨rows,cols,d,r⟩ t:=by
 unfold shiftT
 rw [h1,h2]
theorem shiftT_no {rows cols : List Ik} {x y : Cl} (h : wayI rows x.row y.row = none ∨ wayI cols x.col y.col = none) (t : Tr) : shiftT rows cols x y t = t:=by
 unfold shiftT
 rcases h with h | h
 · rw [h]
 · rw [h]
   cases wayI rows x.row y.row <;> rfl
end Go.Proofs.YtjobojfaocihfaaGreat
namespace Go.Proofs.YtjobojfaocihfaaGreat
set_option maxRecDepth 100000
set_option maxHeartbeats 2000000
set_option linter.unusedSimpArgs false
set_option linter.unusedVariables false
open Go Go.RowKit Go.Shelf Go.Maps
theorem placeRd_c {w : World} {p : Nat} {L : IL} (h : AxRd w p L) (hgd : L.Ok) (x : Ik) (hx : x.ok) :
 Calls Tryz.prog 96 #[.pointer (some ⟨p,0,none⟩),.agg #[.int .i64 x.a,.int .i64 x.n]] w fun e w' => e = .returned (.tuple #[.int .i64 (((placeL L.alive x).getD 0 : Nat) : Int),.bool (placeL L.alive x).isSome]) ∧ Below w.heap.size w w':=by
 obtain ⟨Ai,ci,Al,cl,b,Aa,ca,Av,cv,h⟩:=h
 exact placeR_c h hgd.ok hgd.nodup (by have:=hgd.len; omega) x hx
theorem atRd_c {w : World} {p : Nat} {L : IL} (h : AxRd w p L) (hgd : L.Ok) (k : Int) :
 Calls Tryz.prog 74 #[.pointer (some ⟨p,0,none⟩),.int .i64 k] w fun e w' => e = .returned (.tuple #[.agg #[.int .i64 (atL L.alive k).1.a,.int .i64 (atL L.alive k).1.n],.bool (atL L.alive k).2]) ∧ Below w.heap.size w w':=by
 obtain ⟨Ai,ci,Al,cl,b,Aa,ca,Av,cv,h⟩:=h
 exact atR_c h k (by have:=hgd.len; have:=IL.alive_len L; omega)
def wayZ (l : List Ik) (x y : Ik) : Int:=(((placeL l y).getD 0 : Nat) : Int) - (((placeL l x).getD 0 : Nat) : Int)
theorem wayI_isSome (l : List Ik) (x y : Ik) : (wayI l x y).isSome = ((placeL l x).isSome && (placeL l y).isSome):=by
 unfold wayI
 cases placeL l x <;> cases placeL l y <;> rfl
theorem wayI_wayZ {l : List Ik} {x y : Ik} {d : Int} (h : wayI l x y = some d) : d = wayZ l x y:=by
 obtain ⟨p,q,h1,h2,rfl⟩:=wayI_some h
 unfold wayZ
 rw [h1,h2]
 rfl
theorem placeL_le {l : List Ik} (x : Ik) : (placeL l x).getD 0 ≤ l.length:=by
 cases h : placeL l x with
 | none => simp
 | some k => obtain ⟨h1,-⟩:=placeL_some h; simpa using Nat.le_of_lt h1
theorem wayW_c {w : World} {p : Nat} {L : IL} (h : AxW w p L) (hgd : L.Ok) (x y : Ik) (hx : x.ok) (hy : y.ok) :
 Calls Tryz.prog 57 #[.pointer (some ⟨p,0,none⟩),.agg #[.int .i64 x.a,.int .i64 x.n],.agg #[.int .i64 y.a,.int .i64 y.n]] w fun e w' => e = .returned (.tuple #[.int .i64 (wayZ L.alive x y),.bool (wayI L.alive x y).isSome]) ∧ AxRd w' p L ∧ KeepA p w w':=by
 obtain ⟨g,hg⟩ : ∃ g,g = w.heap.size:=⟨_,rfl⟩
 obtain ⟨W,hW⟩ : ∃ W,W = (w.alloc (.cells #[.int .i64 x.a,.int .i64 x.n] 41)).alloc (.cells #[.int .i64 y.a,.int .i64 y.n] 41):=⟨_,rfl⟩
 have hbW : Below w.heap.size w W:=by rw [hW]; exact ((Below.refl _ w).alloc (Nat.le_refl _) _).alloc (by simp) _
 have hk : W.heap[g]? = some (.cells #[.int .i64 x.a,.int .i64 x.n] 41):=by rw [hW,hg]; exact (heapOld _ _ _ (by simp)).trans (heap_alloc_new w _)
 have hk2 : W.heap[g + 1]? = some (.cells #[.int .i64 y.a,.int .i64 y.n] 41):=by
  rw [hW,hg]; have:=heap_alloc_new (w.alloc (.cells #[.int .i64 x.a,.int .i64 x.n] 41)) (.cells #[.int .i64 y.a,.int .i64 y.n] 41); rwa [World.size_alloc] at this
 have hpg : p < g:=by rw [hg]; exact h.lt
 have hsz : W.heap.size = g + 2:=by rw [hW,hg]; simp
 have HP1:=Jh (placeW_c (h.below hbW) hgd x hx)
 have HP2:=Jh (fun (W : World) (h : AxRd W p L) => placeRd_c h hgd y hy)
 have HIA:=Jh (show ∀ a b : Value,(Tryz.prog.info? 41).map (·.size) = some (#[a,b] : Array Value).size from fun _ _ => infIk)
 have la:=hgd.len
 have lb:=IL.alive_len L
 have l1:=placeL_le (l:=L.alive) x
 have l2:=placeL_le (l:=L.alive) y
 unfold wayZ
 rw [wayI_isSome]
 generalize (placeL L.alive x).isSome = fx at HP1 ⊢
 generalize (placeL L.alive y).isSome = fy at HP2 ⊢
 obtain ⟨zx,hzx⟩ : ∃ zx,(placeL L.alive x).getD 0 = zx:=⟨_,rfl⟩
 obtain ⟨zy,hzy⟩ : ∃ zy,(placeL L.alive y).getD 0 = zy:=⟨_,rfl⟩
 rw [hzx] at l1 HP1 ⊢
 rw [hzy] at l2 HP2 ⊢
 have l3 : zx ≤ 1000:=by omega
 have l4 : zy ≤ 1000:=by omega
 have HG:=Jh hg
 have HB:=Jh hbW
 have HK:=Jh hk
 have HK2:=Jh hk2
 have HPG:=Jh hpg
 have HS:=Jh hsz
 clear hg hbW hk hk2 hpg hsz h hgd hx hy la lb l1 l2 hzx hzy
 obtain ⟨xa,xn⟩:=x
 obtain ⟨ya,yn⟩:=y
 have HW:=Jh hW
 clear hW
 dsimp only at HP1 HP2 HK HK2 HW ⊢
 go_enter Tryz.func57,Tryz.ntmps57
 go_upto_region 1 with (fail)
 rw [← HW.out,← HG.out]
 go_upto_region 2 with (first | (refine wpList_row rfl 41 _ rfl g rfl 41 #[.int .i64 xa,.int .i64 xn] (0,0) _ HK.out ikUnd rfl (HIA.out _ _) ?_) | (go_at_call 96; refine HP1.out.mono ?_; rintro e w1 ⟨rfl,hRD⟩; have HRD:=Jh hRD; clear hRD))
 have hk3 : w1.heap[g + 1]? = some (.cells #[.int .i64 ya,.int .i64 yn] 41):=(HRD.out.2.block (g + 1) (Jg HK2.out).1 (by have:=HPG.out; omega)).trans HK2.out
 have HK3:=Jh hk3
 have HP3:=Jh (HP2.out w1 HRD.out.1)
 clear hk3
 go_upto_region 3 with (first | (refine wpList_row rfl 41 _ rfl (g + 1) rfl 41 #[.int .i64 ya,.int .i64 yn] (0,0) _ HK3.out ikUnd rfl (HIA.out _ _) ?_) | (go_at_call 96; refine HP3.out.mono ?_; rintro e w2 ⟨rfl,hRE⟩; have HRE:=Jh hRE; clear hRE))
 have HF:=Jh (show AxRd w2 p L ∧ KeepA p w w2 from ⟨HRD.out.1.below HRE.out,((KeepA.of HB.out).trans HRD.out.2).trans (KeepA.of HRE.out)⟩)
 clear HP1 HP2 HP3 HRD HRE HK HK2 HK3 HW HS HB HG HPG HIA
 have hwz : wrap64 ((zy : Int) - zx) = (zy : Int) - zx:=by unfold wrap64; omega
 have HWZ:=Jh hwz
 clear hwz
 cases fx <;> cases fy <;> (go_wp2; first | go_ret | go_ret2; refine ⟨?_,HF.out⟩; first | rfl | (go_num) | skip)
end Go.Proofs.YtjobojfaocihfaaGreat
namespace Go.Proofs.YtjobojfaocihfaaGreat
set_option maxRecDepth 100000
set_option maxHeartbeats 2000000
set_option linter.unusedSimpArgs false
set_option linter.unusedVariables false
open Go Go.RowKit Go.Shelf Go.Maps
theorem atL_gone {l : List Ik} {d : Int} {x : Ik} {q : Nat} (h : placeL l x = some q) : atL l ((q : Int) + d) = ((goneI l d x).getD ⟨0,0⟩,(goneI l d x).isSome):=by
 unfold atL goneI
 rw [h]
 by_cases h1 : 0 ≤ (q : Int) + d
 · by_cases h2 : (q : Int) + d < l.length
   · have h3 : ((q : Int) + d).toNat < l.length:=by omega
     simp only [h1,h2,and_self,if_true,List.getD_eq_getElem?_getD,List.getElem?_eq_getElem h3]
     rfl
   · have h3 : l.length ≤ ((q : Int) + d).toNat:=by omega
     simp only [h1,h2,and_false,if_false,if_true,List.getElem?_eq_none h3]
     rfl
 · simp only [h1,false_and,if_false]
   rfl
theorem goneI_zero {L : IL} (h : L.Ok) {d : Int} {x : Ik} (hz : x.z = true) : goneI L.alive d x = some x:=by
 refine goneI_out (fun h' => ?_)
 have:=h.nz x (IL.alive_ids h')
 rw [hz] at this
 cases this
theorem goneRd_c {w : World} {p : Nat} {L : IL} (h : AxRd w p L) (hgd : L.Ok) (x : Ik) (hx : x.ok) (f : Bool) (d : Int) (hd : -1000000 ≤ d ∧ d ≤ 1000000) :
 Calls Tryz.prog 60 #[.pointer (some ⟨p,0,none⟩),.agg #[.int .i64 x.a,.int .i64 x.n],.bool f,.int .i64 d] w fun e w' => e = .returned (.tuple #[.agg #[.int .i64 ((goneX L.alive d f x).getD ⟨0,0⟩).a,.int .i64 ((goneX L.alive d f x).getD ⟨0,0⟩).n],.bool (goneX L.alive d f x).isSome]) ∧ Below w.heap.size w w':=by
 obtain ⟨g,hg⟩ : ∃ g,g = w.heap.size:=⟨_,rfl⟩
 obtain ⟨W,hW⟩ : ∃ W,W = (w.alloc (.cells #[.int .i64 x.a,.int .i64 x.n] 41)).alloc (.cells #[.int .i64 0,.int .i64 0] 41):=⟨_,rfl⟩
 have hbW : Below w.heap.size w W:=by rw [hW]; exact ((Below.refl _ w).alloc (Nat.le_refl _) _).alloc (by simp) _
 have hk : W.heap[g]? = some (.cells #[.int .i64 x.a,.int .i64 x.n] 41):=by rw [hW,hg]; exact (heapOld _ _ _ (by simp)).trans (heap_alloc_new w _)
 have hk2 : W.heap[g + 1]? = some (.cells #[.int .i64 0,.int .i64 0] 41):=by
  rw [hW,hg]; have:=heap_alloc_new (w.alloc (.cells #[.int .i64 x.a,.int .i64 x.n] 41)) (.cells #[.int .i64 0,.int .i64 0] 41); rwa [World.size_alloc] at this
 have hRW:=h.below hbW
 have HP:=Jh (placeRd_c hRW hgd x hx)
 have HAT:=Jh (fun (W : World) (h : AxRd W p L) (k : Int) => atRd_c h hgd k)
 have HIA:=Jh (show ∀ a b : Value,(Tryz.prog.info? 41).map (·.size) = some (#[a,b] : Array Value).size from fun _ _ => infIk)
 have HG:=Jh hg
 have HB:=Jh hbW
 have HK:=Jh hk
 have HK2:=Jh hk2
 have HR:=Jh hRW
 have hzg:=fun hz => goneI_zero (x:=x) (d:=d) hgd hz
 have hag:=fun q hq => atL_gone (l:=L.alive) (d:=d) (x:=x) (q:=q) hq
 have la:=hgd.len
 have lb:=IL.alive_len L
 have hq1 : ∀ q,placeL L.alive x = some q → q ≤ 1000:=fun q hq => by obtain ⟨h1,-⟩:=placeL_some hq; omega
 have HSAME:=Jh (show ∀ W2 : World,Below w.heap.size w W2 → Below w.heap.size w (W2.setRow (g + 1) #[.int .i64 x.a,.int .i64 x.n]) from fun W2 h => below_row h (by rw [hg]; omega) _)
 have hnone : placeL L.alive x = none → goneI L.alive d x = some x:=fun h => goneI_out (placeL_none.1 h)
 clear hg hbW hk hk2 h hgd hx la lb hRW
 unfold goneX
 cases f with
 | true =>
  rw [if_pos rfl]
  obtain ⟨xa,xn⟩:=x
  have HW:=Jh hW
  clear hW hzg hag hq1 hnone HP HAT HR
  dsimp only [Option.getD_some,Option.isSome_some] at *
  go_enter Tryz.func60,Tryz.ntmps60
  go_upto_region 1 with (fail)
  rw [← HW.out,← HG.out]
  go_wp2_with (first | (refine wpList_row rfl 41 _ rfl g rfl 41 #[.int .i64 xa,.int .i64 xn] (0,0) _ HK.out ikUnd rfl (HIA.out _ _) ?_) | (refine wpList_store_row rfl 41 _ _ rfl (g + 1) #[.int .i64 xa,.int .i64 xn] rfl rfl 41 #[.int .i64 0,.int .i64 0] HK2.out (HIA.out _ _) rfl (by kernel_rfl) ?_) | fail)
  refine bodyPost_ret (v:=.tuple #[.agg #[.int .i64 xa,.int .i64 xn],.bool true]) (results_cell_flagA (p:=8) (u:=9) rfl _ _ (g + 1) 41 #[.int .i64 xa,.int .i64 xn] (0,0) _ rfl (setRow_heap _ _ _ _ _ _ HK2.out) ikUnd rfl (HIA.out _ _)) rfl ?_
  exact ⟨rfl,HSAME.out _ HB.out⟩
 | false =>
  rw [if_neg (by decide)]
  have hze:=fun w => eqI w x.a x.n 0 0
  cases hz : x.z with
  | true =>
   rw [hzg hz]
   have hzf : decide (x.a = 0 ∧ x.n = 0) = true:=hz
   rw [hzf] at hze
   clear hzg hag hq1 hnone HP HAT HR hz hzf
   obtain ⟨xa,xn⟩:=x
   have HW:=Jh hW
   clear hW
   dsimp only [Option.getD_some,Option.isSome_some] at *
   go_enter Tryz.func60,Tryz.ntmps60
   go_upto_region 1 with (fail)
   rw [← HW.out,← HG.out]
   go_wp2_with (first | (refine wpList_row rfl 41 _ rfl g rfl 41 #[.int .i64 xa,.int .i64 xn] (0,0) _ HK.out ikUnd rfl (HIA.out _ _) ?_) | (refine wpList_store_row rfl 41 _ _ rfl (g + 1) #[.int .i64 xa,.int .i64 xn] rfl rfl 41 #[.int .i64 0,.int .i64 0] HK2.out (HIA.out _ _) rfl (by kernel_rfl) ?_) | fail)
   refine bodyPost_ret (v:=.tuple #[.agg #[.int .i64 xa,.int .i64 xn],.bool true]) (results_cell_flagA (p:=8) (u:=9) rfl _ _ (g + 1) 41 #[.int .i64 xa,.int .i64 xn] (0,0) _ rfl (setRow_heap _ _ _ _ _ _ HK2.out) ikUnd rfl (HIA.out _ _)) rfl ?_
   exact ⟨rfl,HSAME.out _ HB.out⟩
  | false =>
   have hzf : decide (x.a = 0 ∧ x.n = 0) = false:=hz
   rw [hzf] at hze
   cases hp : placeL L.alive x with
   | none =>
    rw [hnone hp]
    rw [hp] at HP
    clear hzg hag hq1 hnone HAT HR hz hzf hp
    obtain ⟨xa,xn⟩:=x
    have HW:=Jh hW
    clear hW
    dsimp only [Option.getD_some,Option.isSome_some,Option.getD_none,Option.isSome_none] at *
    go_enter Tryz.func60,Tryz.ntmps60
    go_upto_region 1 with (fail)
    rw [← HW.out,← HG.out]
    go_upto_region 4 with (first | (refine wpList_row rfl 41 _ rfl g rfl 41 #[.int .i64 xa,.int .i64 xn] (0,0) _ HK.out ikUnd rfl (HIA.out _ _) ?_) | (go_at_call 96; refine HP.out.mono ?_; rintro e w1 ⟨rfl,hRD⟩; have HRD:=Jh hRD; clear hRD))
    have HK3:=Jh ((HRD.out.block g (Jg HK.out).1).trans HK.out)
    have HK4:=Jh ((HRD.out.block (g + 1) (Jg HK2.out).1).trans HK2.out)
    go_wp2_with (first | (refine wpList_row rfl 41 _ rfl g rfl 41 #[.int .i64 xa,.int .i64 xn] (0,0) _ HK3.out ikUnd rfl (HIA.out _ _) ?_) | (refine wpList_store_row rfl 41 _ _ rfl (g + 1) #[.int .i64 xa,.int .i64 xn] rfl rfl 41 #[.int .i64 0,.int .i64 0] HK4.out (HIA.out _ _) rfl (by kernel_rfl) ?_) | fail)
    refine bodyPost_ret (v:=.tuple #[.agg #[.int .i64 xa,.int .i64 xn],.bool true]) (results_cell_flagA (p:=8) (u:=9) rfl _ _ (g + 1) 41 #[.int .i64 xa,.int .i64 xn] (0,0) _ rfl (setRow_heap _ _ _ _ _ _ HK4.out) ikUnd rfl (HIA.out _ _)) rfl ?_
    exact ⟨rfl,HSAME.out _ (HB.out.trans (HRD.out.mono HB.out.size))⟩
   | some q =>
    have hq:=hq1 q hp
    have hat:=hag q hp
    rw [hp] at HP
    clear hzg hag hq1 hnone hz hzf hp
    generalize goneI L.alive d x = r at hat ⊢
    obtain ⟨y,hy⟩ : ∃ y,r.getD (⟨0,0⟩ : Ik) = y:=⟨_,rfl⟩
    obtain ⟨fl,hfl⟩ : ∃ fl,r.isSome = fl:=⟨_,rfl⟩
    rw [hy,hfl] at hat ⊢
    have HAT:=Jh (fun (W : World) (h : AxRd W p L) => by have:=HAT.out W h ((q : Int) + d); rw [hat] at this; exact this)
    have HSAME:=Jh (show ∀ W2 : World,Below w.heap.size w W2 → Below w.heap.size w (W2.setRow (g + 1) #[.int .i64 y.a,.int .i64 y.n]) from fun W2 h => below_row h (by have:=HG.out; rw [← this]; omega) _)
    clear hy hfl hat
    obtain ⟨xa,xn⟩:=x
    obtain ⟨ya,yn⟩:=y
    have HW:=Jh hW
    clear hW
    dsimp only [Option.getD_some,Option.isSome_some] at *
    have hwz : wrap64 ((q : Int) + d) = (q : Int) + d:=by unfold wrap64; omega
    go_enter Tryz.func60,Tryz.ntmps60
    go_upto_region 1 with (fail)
    rw [← HW.out,← HG.out]
    go_upto_region 4 with (first | (refine wpList_row rfl 41 _ rfl g rfl 41 #[.int .i64 xa,.int .i64 xn] (0,0) _ HK.out ikUnd rfl (HIA.out _ _) ?_) | (go_at_call 96; refine HP.out.mono ?_; rintro e w1 ⟨rfl,hRD⟩; have HRD:=Jh hRD; clear hRD))
    have HAT2:=Jh (HAT.out w1 (HR.out.below HRD.out))
    have HK4:=Jh ((HRD.out.block (g + 1) (Jg HK2.out).1).trans HK2.out)
    go_wp2_with (first | (go_at_call 74; refine HAT2.out.mono ?_; rintro e w2 ⟨rfl,hRE⟩; have HRE:=Jh hRE; clear hRE) | (refine wpList_store_row rfl 41 _ _ rfl (g + 1) #[.int .i64 ya,.int .i64 yn] rfl rfl 41 #[.int .i64 0,.int .i64 0] ((HRE.out.block (g + 1) (Jg HK4.out).1).trans HK4.out) (HIA.out _ _) rfl (by kernel_rfl) ?_) | fail)
    refine bodyPost_ret (v:=.tuple #[.agg #[.int .i64 ya,.int .i64 yn],.bool fl]) (results_cell_flagA (p:=8) (u:=9) rfl _ _ (g + 1) 41 #[.int .i64 ya,.int .i64 yn] (0,0) _ rfl (setRow_heap _ _ _ _ _ _ ((HRE.out.block (g + 1) (Jg HK4.out).1).trans HK4.out)) ikUnd rfl (HIA.out _ _)) rfl ?_
    have hb1:=HB.out.trans (HRD.out.mono HB.out.size)
    exact ⟨rfl,HSAME.out _ (hb1.trans (HRE.out.mono hb1.size))⟩
end Go.Proofs.YtjobojfaocihfaaGreat
namespace Go.Proofs.YtjobojfaocihfaaGreat
set_option maxRecDepth 100000
set_option maxHeartbeats 4000000
set_option linter.unusedSimpArgs false
set_option linter.unusedVariables false
open Go Go.RowKit Go.Shelf Go.Maps
theorem wp_runF {P : Program} {o : Oper} {a : Act} {w w' : World} {v : Value} {K : Act → World → Prop} {Q : Exit → Act → World → Prop} (hr : (execOp a.eval o).run P w = .ok (.value v) w') (h : K (a.put o.dst v) w') : Oper.wp P o a w K Q:=by
 simp only [Oper.wp,hr,Oper.upon]; exact h
theorem range_far {w w' : World} {g o : Nat} {vs : List Value} (h : w'.heap[g]? = w.heap[g]?) (hr : w.rangeAt g o vs) : w'.rangeAt g o vs:=fun i v hv => (World.cell?_of_block (a:=⟨g,o + i,none⟩) h).trans (hr i v hv)
theorem row_rangeF {w : World} {g : Nat} {a b : Value} {t : TypeId} {fr : Nat × Nat} (h : w.heap[g]? = some (.cells #[a,b] t fr)) : w.rangeAt g 0 [a,b]:=fun i v hv => by
 rw [Nat.zero_add]
 exact (cell_of_row _ _ i _ _ _ h).trans (by simpa using hv)
theorem there_of {w : World} {b o : Nat} {N : Array Value} {t : TypeId} (h : w.heap[b]? = some (.cells N t)) (ho : o + 1 < N.size) : w.there b o 2:=fun j hj => by
 refine ⟨?_,by unfold World.frozen?; rw [h]; simp⟩
 rw [Lib.cell_of_heap h,Array.getElem?_eq_getElem (by omega)]
 rfl
theorem keepA_setCells (b o : Nat) (vs : List Value) (w : World) : KeepA b w (w.setCells b o vs) :=
 ⟨(below_setCells2 (Nat.le_refl b) vs o w).os,(below_setCells2 (Nat.le_refl b) vs o w).tape,(below_setCells2 (Nat.le_refl b) vs o w).output,(below_setCells2 (Nat.le_refl b) vs o w).size,fun k _ hk => heap_setCells_far b hk vs o w⟩
theorem ldAx_run {o : Oper} {ρ : Operand → Value} {w : World} (x : Operand) (ho : o.op = .load 62 x) (p : Addr) (hx : ρ x = .pointer (some p)) (v : Value) (hc : w.cell? p = some v) : (execOp ρ o).run Tryz.prog w = .ok (.value v) w:=by
 unfold execOp
 simp only [ho,hx]
 simp [go_sem,hc]
theorem ldIn_run {o : Oper} {ρ : Operand → Value} {w : World} (x : Operand) (ho : o.op = .load 3 x) (p : Addr) (hx : ρ x = .pointer (some p)) (v : Value) (hc : w.cell? p = some v) : (execOp ρ o).run Tryz.prog w = .ok (.value v) w:=by
 unfold execOp
 simp only [ho,hx]
 simp [go_sem,hc]
theorem ldBl_run {o : Oper} {ρ : Operand → Value} {w : World} (x : Operand) (ho : o.op = .load 4 x) (p : Addr) (hx : ρ x = .pointer (some p)) (v : Value) (hc : w.cell? p = some v) : (execOp ρ o).run Tryz.prog w = .ok (.value v) w:=by
 unfold execOp
 simp only [ho,hx]
 simp [go_sem,hc]
structure GoJ (W : World) (bR bD bC bE p q : Nat) (L M : IL) (dn rt : Int) : Prop where
 rows : W.heap[bR]? = some (.cells #[.pointer (some ⟨p,0,none⟩)] 62)
 down : W.heap[bD]? = some (.cells #[.int .i64 dn] 3)
 cols : W.heap[bC]? = some (.cells #[.pointer (some ⟨q,0,none⟩)] 62)
 right : W.heap[bE]? = some (.cells #[.int .i64 rt] 3)
 ax1 : AxRd W p L
 ax2 : AxRd W q M
theorem GoJ.below {W W' : World} {bR bD bC bE p q : Nat} {L M : IL} {dn rt : Int} (h : GoJ W bR bD bC bE p q L M dn rt) (hb : Below W.heap.size W W') : GoJ W' bR bD bC bE p q L M dn rt :=
 ⟨(hb.block _ (Jg h.rows).1).trans h.rows,(hb.block _ (Jg h.down).1).trans h.down,(hb.block _ (Jg h.cols).1).trans h.cols,(hb.block _ (Jg h.right).1).trans h.right,h.ax1.below hb,h.ax2.below hb⟩
theorem goneC_parts (w : Wy) (c : Cn) : (goneC w c).isSome = ((goneX w.rows w.down c.fr c.row').isSome && (goneX w.cols w.right c.fc c.col').isSome):=by
 unfold goneC
 cases goneX w.rows w.down c.fr c.row' <;> cases goneX w.cols w.right c.fc c.col' <;> rfl
theorem goes_c {w0 w : World} {bR bD bC bE p q b o : Nat} {L M : IL} {dn rt : Int} {N : Array Value} (hJ0 : GoJ w0 bR bD bC bE p q L M dn rt) (hb0 : w0.heap.size ≤ b) (hbw : Below w0.heap.size w0 w) (hL : L.Ok) (hM : M.Ok) (hdn : -1000000 ≤ dn ∧ dn ≤ 1000000) (hrt : -1000000 ≤ rt ∧ rt ≤ 1000000)
 (hN : w.heap[b]? = some (.cells N 54)) (c : Cn) (hc : c.row'.ok ∧ c.col'.ok) (h0 : N[o]? = some (.int .i64 c.ra)) (h1 : N[o + 1]? = some (.int .i64 c.rn)) (h2 : N[o + 2]? = some (.int .i64 c.ca)) (h3 : N[o + 3]? = some (.int .i64 c.cn)) (h4 : N[o + 4]? = some (.bool c.fr)) (h5 : N[o + 5]? = some (.bool c.fc)) :
 Calls Tryz.prog 59 #[.pointer (some ⟨b,o,none⟩),.pointer (some ⟨bR,0,none⟩),.pointer (some ⟨bD,0,none⟩),.pointer (some ⟨bC,0,none⟩),.pointer (some ⟨bE,0,none⟩)] w fun e w' => ∃ r k : Ik,r = (goneX L.alive dn c.fr c.row').getD ⟨0,0⟩ ∧ k = (goneX M.alive rt c.fc c.col').getD ⟨0,0⟩ ∧ e = .returned (.bool (goneC ⟨L.alive,M.alive,dn,rt⟩ c).isSome) ∧
  w'.heap[b]? = some (.cells ((((N.setIfInBounds o (.int .i64 r.a)).setIfInBounds (o + 1) (.int .i64 r.n)).setIfInBounds (o + 2) (.int .i64 k.a)).setIfInBounds (o + 3) (.int .i64 k.n)) 54) ∧ KeepA b w w':=by
 rw [goneC_parts]
 have hJ:=hJ0.below hbw
 have hbl : b < w.heap.size:=(Jg hN).1
 have HG1:=Jh (fun (wx : World) (h : Below w.heap.size w wx) => goneRd_c (hJ.below h).ax1 hL c.row' hc.1 c.fr dn hdn)
 have HG2:=Jh (fun (wx : World) (h : Below w.heap.size w wx) => goneRd_c (hJ.below h).ax2 hM c.col' hc.2 c.fc rt hrt)
 dsimp only
 generalize (goneX L.alive dn c.fr c.row') = r0 at HG1 ⊢
 generalize (goneX M.alive rt c.fc c.col') = k0 at HG2 ⊢
 obtain ⟨r,hr⟩ : ∃ r,r0.getD (⟨0,0⟩ : Ik) = r:=⟨_,rfl⟩
 obtain ⟨k,hk⟩ : ∃ k,k0.getD (⟨0,0⟩ : Ik) = k:=⟨_,rfl⟩
 obtain ⟨fr,hfr⟩ : ∃ f,r0.isSome = f:=⟨_,rfl⟩
 obtain ⟨fk,hfk⟩ : ∃ f,k0.isSome = f:=⟨_,rfl⟩
 rw [hr,hfr] at HG1
 rw [hk,hfk] at HG2
 rw [hr,hk,hfr,hfk]
 clear hr hk hfr hfk
 obtain ⟨cra,crn,cca,ccn,cfr,cfc⟩:=c
 obtain ⟨ra,rn⟩:=r
 obtain ⟨ka,kn⟩:=k
 dsimp only [Cn.row',Cn.col'] at *
 refine Calls.mono (?_ : Calls Tryz.prog 59 _ w fun e w' => e = .returned (.bool (fr && fk)) ∧ w'.heap[b]? = some (.cells ((((N.setIfInBounds o (.int .i64 ra)).setIfInBounds (o + 1) (.int .i64 rn)).setIfInBounds (o + 2) (.int .i64 ka)).setIfInBounds (o + 3) (.int .i64 kn)) 54) ∧ KeepA b w w') (fun e w' h => ⟨⟨ra,rn⟩,⟨ka,kn⟩,rfl,rfl,h.1,h.2⟩)
 have HB:=Jh (fun (wx : World) (h : Below w.heap.size w wx) => show wx.heap[b]? = some (.cells N 54) from (h.block b hbl).trans hN)
 have HC:=Jh (fun (wx : World) (h : Below w.heap.size w wx) (j : Nat) (v : Value) (hj : N[j]? = some v) => show wx.cell? ⟨b,j,none⟩ = some v from by rw [Lib.cell_of_heap (HB.out wx h)]; exact hj)
 have HX:=Jh (fun (wx : World) (h : Below w.heap.size w wx) => show wx.cell? ⟨bR,0,none⟩ = some (.pointer (some ⟨p,0,none⟩)) ∧ wx.cell? ⟨bD,0,none⟩ = some (.int .i64 dn) ∧ wx.cell? ⟨bC,0,none⟩ = some (.pointer (some ⟨q,0,none⟩)) ∧ wx.cell? ⟨bE,0,none⟩ = some (.int .i64 rt) from
  ⟨cell_of_row _ _ 0 _ _ _ (hJ.below h).rows,cell_of_row _ _ 0 _ _ _ (hJ.below h).down,cell_of_row _ _ 0 _ _ _ (hJ.below h).cols,cell_of_row _ _ 0 _ _ _ (hJ.below h).right⟩)
 have HRR:=Jh (fun (wx : World) (h : Below w.heap.size w wx) => show wx.rangeAt b o [.int .i64 cra,.int .i64 crn] from fun i v hv => by
  match i,hv with
  | 0,hv => rw [← Option.some.inj hv]; exact HC.out wx h o _ h0
  | 1,hv => rw [← Option.some.inj hv]; exact HC.out wx h (o + 1) _ h1)
 have HRC:=Jh (fun (wx : World) (h : Below w.heap.size w wx) => show wx.rangeAt b (o + 2) [.int .i64 cca,.int .i64 ccn] from fun i v hv => by
  match i,hv with
  | 0,hv => rw [← Option.some.inj hv]; exact HC.out wx h (o + 2) _ h2
  | 1,hv => rw [← Option.some.inj hv]; exact HC.out wx h (o + 3) _ h3)
 have HF1:=Jh (fun (wx : World) (h : Below w.heap.size w wx) => show wx.cell? ⟨b,o + 4,none⟩ = some (.bool cfr) from HC.out wx h _ _ h4)
 have HF2:=Jh (fun (wx : World) (h : Below w.heap.size w wx) => show wx.cell? ⟨b,o + 5,none⟩ = some (.bool cfc) from HC.out wx h _ _ h5)
 have HIL:=Jh (show ∀ a b : Value,(Tryz.prog.info? 41).map (·.size) = some [a,b].length from fun _ _ => infIk)
 have HIA:=Jh (show ∀ a b : Value,(Tryz.prog.info? 41).map (·.size) = some (#[a,b] : Array Value).size from fun _ _ => infIk)
 have hos : o + 5 < N.size:=(Jg h5).1
 have HBL:=Jh (And.intro hbl hos)
 clear hJ hJ0 hb0 hbw hL hM hdn hrt hN hc h0 h1 h2 h3 h4 h5 hbl hos HC
 go_enter Tryz.func59,Tryz.ntmps59
 have HTR:=Jh (fun (wx : World) (h : Below w.heap.size w wx) => h)
 go_upto_region 1 with (fail)
 go_cut [7,8] (fun a c wz => ∃ g,a = .pointer (some ⟨g,0,none⟩) ∧ c = .bool fr ∧ Hid (Below w.heap.size w wz ∧ w.heap.size ≤ g ∧ wz.heap[g]? = some (.cells #[.int .i64 ra,.int .i64 rn] 41)))
 case first =>
  refine wp_region_held_drew (S:=fun wz => Below w.heap.size w wz) (by kernel_rfl) (Below.refl _ w).drew (fun hHeld => ?_)
  refine tkG (i:=0) (v:=.pointer (some ⟨p,0,none⟩)) rfl (Or.inl ⟨by kernel_rfl,fun _ hS => ldAx_run _ rfl ⟨bR,0,none⟩ rfl _ (HX.out _ (HTR.out _ hS)).1⟩) hHeld ?_
  try simp only [sX]
  refine tkH (i:=1) (v:=.pointer (some ⟨b,o,none⟩)) rfl hHeld ?_
  try simp only [sX]
  refine tkH (i:=2) (v:=.pointer (some ⟨b,o,none⟩)) rfl hHeld ?_
  try simp only [sX]
  refine tkH (i:=3) (v:=.pointer (some ⟨b,o,none⟩)) rfl hHeld ?_
  try simp only [sX]
  refine tkG (i:=4) (v:=.agg #[.int .i64 cra,.int .i64 crn]) rfl (yieldsIf_load_mid (by kernel_rfl) 41 _ rfl b (o) rfl [.int .i64 cra,.int .i64 crn] _ (fun _ hS => HRR.out _ (HTR.out _ hS)) ikUnd rfl (HIL.out _ _)) hHeld ?_
  try simp only [sX]
  refine tkH (i:=5) (v:=.pointer (some ⟨b,o,none⟩)) rfl hHeld ?_
  try simp only [sX]
  refine tkH (i:=6) (v:=.pointer (some ⟨b,o,none⟩)) rfl hHeld ?_
  try simp only [sX]
  refine tkH (i:=7) (v:=.pointer (some ⟨b,o + 4,none⟩)) rfl hHeld ?_
  try simp only [sX]
  refine tkG (i:=8) (v:=.bool cfr) rfl (Or.inl ⟨by kernel_rfl,fun _ hS => ldBl_run _ rfl ⟨b,o + 4,none⟩ rfl _ (HF1.out _ (HTR.out _ hS))⟩) hHeld ?_
  try simp only [sX]
  refine tkG (i:=9) (v:=.int .i64 dn) rfl (Or.inl ⟨by kernel_rfl,fun _ hS => ldIn_run _ rfl ⟨bD,0,none⟩ rfl _ (HX.out _ (HTR.out _ hS)).2.1⟩) hHeld ?_
  try simp only [sX]
  refine wpAnyH_ready (rs:=[10,14]) (by kernel_rfl) (by simp) ?_
  refine AllReadyH.cons rfl (fun K hK => ?_) (AllReadyH.cons rfl (fun K hK => ?_) AllReadyH.nil)
  · skip
    go_simp
    refine (HG1.out _ (HTR.out _ hHeld)).mono ?_
    rintro e w1 ⟨rfl,hb1⟩
    try go_simp
    have hbb : Below w.heap.size w w1:=hHeld.trans (hb1.mono hHeld.size)
    refine hK.out _ _ hbb (fun hHeld1 => ?_)
    clear hK K hHeld
    have hHeld:=hHeld1
    try simp only [sX]
    refine tkH (i:=11) (v:=.tuple #[.agg #[.int .i64 ra,.int .i64 rn],.bool fr]) rfl hHeld ?_
    try simp only [sX]
    refine tkH (i:=12) (v:=.agg #[.int .i64 ra,.int .i64 rn]) rfl hHeld ?_
    try simp only [sX]
    refine tkH (i:=13) (v:=.bool fr) rfl hHeld ?_
    try simp only [sX]
    refine wpAnyH_ready (rs:=[14]) (by kernel_rfl) (by simp) ?_
    refine AllReadyH.cons rfl (fun K hK => ?_) AllReadyH.nil
    rw [if_pos (wanted_none rfl)]
    refine wp_runF (v:=.pointer (some ⟨w1.heap.size,0,none⟩)) (w':=w1.alloc (.cells #[.int .i64 0,.int .i64 0] 41)) (by kernel_rfl) ?_
    have hba : Below w.heap.size w (w1.alloc (.cells #[.int .i64 0,.int .i64 0] 41)):=hbb.alloc hbb.size _
    refine hK.out _ _ hba (fun hHeld1 => ?_)
    clear hK K hHeld
    have hHeld:=hHeld1
    try simp only [sX]
    have hg : (w1.alloc (.cells #[.int .i64 0,.int .i64 0] 41)).heap[w1.heap.size]? = some (.cells #[.int .i64 0,.int .i64 0] 41):=heap_alloc_new _ _
    have hgs : w.heap.size ≤ w1.heap.size:=hbb.size
    generalize w1.alloc (.cells #[.int .i64 0,.int .i64 0] 41) = w2 at *
    generalize w1.heap.size = g at *
    refine wpAnyH_ready (rs:=[15]) (by kernel_rfl) (by simp) ?_
    refine AllReadyH.cons rfl (fun K hK => ?_) AllReadyH.nil
    rw [if_pos (wanted_none rfl)]
    refine wp_store_row 41 _ _ rfl g #[.int .i64 ra,.int .i64 rn] rfl rfl 41 #[.int .i64 0,.int .i64 0] hg (HIA.out _ _) rfl (by kernel_rfl) ?_
    have hbr:=below_row hHeld hgs #[.int .i64 ra,.int .i64 rn]
    have hgr : (w2.setRow g #[.int .i64 ra,.int .i64 rn]).heap[g]? = some (.cells #[.int .i64 ra,.int .i64 rn] 41):=setRow_heap _ _ _ _ _ _ hg
    refine hK.out _ _ hbr (fun hHeld1 => ?_)
    clear hK K
    rename_i _
    clear hHeld
    have hHeld:=hHeld1
    try simp only [sX]
    refine tkH (i:=16) (v:=.bool fr) rfl hHeld ?_
    try simp only [sX]
    refine wpAnyH_done (by kernel_rfl) ?_ _
    go_wp2_with fail
    go_meet
    exact ⟨g,rfl,rfl,Jh ⟨hbr,hgs,hgr⟩⟩
  · skip
    rw [if_pos (wanted_none rfl)]
    obtain ⟨w1,hw1⟩ : ∃ w1,w1 = w.drew:=⟨_,rfl⟩
    rw [← hw1] at hHeld ⊢
    clear hw1
    refine wp_runF (v:=.pointer (some ⟨w1.heap.size,0,none⟩)) (w':=w1.alloc (.cells #[.int .i64 0,.int .i64 0] 41)) (by kernel_rfl) ?_
    have hba : Below w.heap.size w (w1.alloc (.cells #[.int .i64 0,.int .i64 0] 41)):=hHeld.alloc hHeld.size _
    have hg1 : (w1.alloc (.cells #[.int .i64 0,.int .i64 0] 41)).heap[w1.heap.size]? = some (.cells #[.int .i64 0,.int .i64 0] 41):=heap_alloc_new _ _
    have hgs : w.heap.size ≤ w1.heap.size:=hHeld.size
    refine hK.out _ _ hba (fun hHeld1 => ?_)
    clear hK K hHeld hba
    have hHeld:=hHeld1
    clear hHeld1
    try simp only [sX]
    generalize w1.alloc (.cells #[.int .i64 0,.int .i64 0] 41) = w3 at *
    generalize w1.heap.size = g at *
    refine wpAnyH_ready (rs:=[10]) (by kernel_rfl) (by simp) ?_
    refine AllReadyH.cons rfl (fun K hK => ?_) AllReadyH.nil
    go_simp
    refine (HG1.out _ (HTR.out _ hHeld)).mono ?_
    rintro e w2 ⟨rfl,hb1⟩
    try go_simp
    have hbb : Below w.heap.size w w2:=hHeld.trans (hb1.mono hHeld.size)
    have hg : w2.heap[g]? = some (.cells #[.int .i64 0,.int .i64 0] 41):=(hb1.block g (Jg hg1).1).trans hg1
    refine hK.out _ _ hbb (fun hHeld1 => ?_)
    clear hK K hHeld hg1
    have hHeld:=hHeld1
    try simp only [sX]
    refine tkH (i:=11) (v:=.tuple #[.agg #[.int .i64 ra,.int .i64 rn],.bool fr]) rfl hHeld ?_
    try simp only [sX]
    refine tkH (i:=12) (v:=.agg #[.int .i64 ra,.int .i64 rn]) rfl hHeld ?_
    try simp only [sX]
    refine tkH (i:=13) (v:=.bool fr) rfl hHeld ?_
    try simp only [sX]
    refine wpAnyH_ready (rs:=[15]) (by kernel_rfl) (by simp) ?_
    refine AllReadyH.cons rfl (fun K hK => ?_) AllReadyH.nil
    rw [if_pos (wanted_none rfl)]
    refine wp_store_row 41 _ _ rfl g #[.int .i64 ra,.int .i64 rn] rfl rfl 41 #[.int .i64 0,.int .i64 0] hg (HIA.out _ _) rfl (by kernel_rfl) ?_
    have hbr:=below_row hHeld hgs #[.int .i64 ra,.int .i64 rn]
    have hgr : (w2.setRow g #[.int .i64 ra,.int .i64 rn]).heap[g]? = some (.cells #[.int .i64 ra,.int .i64 rn] 41):=setRow_heap _ _ _ _ _ _ hg
    refine hK.out _ _ hbr (fun hHeld1 => ?_)
    clear hK K
    rename_i _
    clear hHeld
    have hHeld:=hHeld1
    try simp only [sX]
    refine tkH (i:=16) (v:=.bool fr) rfl hHeld ?_
    try simp only [sX]
    refine wpAnyH_done (by kernel_rfl) ?_ _
    go_wp2_with fail
    go_meet
    exact ⟨g,rfl,rfl,Jh ⟨hbr,hgs,hgr⟩⟩
 case rest =>
  obtain ⟨g1,rfl,rfl,hcut⟩:=hcut
  obtain ⟨wx,hwx⟩ : ∃ wx,wx = wc:=⟨_,rfl⟩
  rw [← hwx] at hcut ⊢
  clear hwx
  obtain ⟨hbw1,hg1,hgr1⟩:=hcut.out
  clear hcut HTR
  have HB1:=Jh (And.intro hbw1 (And.intro hg1 hgr1))
  have HTR:=Jh (fun (wx' : World) (h : Below wx.heap.size wx wx') => show Below w.heap.size w wx' from hbw1.trans (h.mono hbw1.size))
  clear hbw1 hg1 hgr1
  go_upto_region 2 with (fail)
  go_cut [9,10] (fun a c wz => ∃ g,a = .pointer (some ⟨g,0,none⟩) ∧ c = .bool fk ∧ Hid (Below wx.heap.size wx wz ∧ wx.heap.size ≤ g ∧ wz.heap[g]? = some (.cells #[.int .i64 ka,.int .i64 kn] 41)))
  case first =>
   refine wp_region_held_drew (S:=fun wz => Below wx.heap.size wx wz) (by kernel_rfl) (Below.refl _ wx).drew (fun hHeld => ?_)
   refine tkG (i:=0) (v:=.pointer (some ⟨q,0,none⟩)) rfl (Or.inl ⟨by kernel_rfl,fun _ hS => ldAx_run _ rfl ⟨bC,0,none⟩ rfl _ (HX.out _ (HTR.out _ hS)).2.2.1⟩) hHeld ?_
   try simp only [sX]
   refine tkH (i:=1) (v:=.pointer (some ⟨b,o,none⟩)) rfl hHeld ?_
   try simp only [sX]
   refine tkH (i:=2) (v:=.pointer (some ⟨b,o,none⟩)) rfl hHeld ?_
   try simp only [sX]
   refine tkH (i:=3) (v:=.pointer (some ⟨b,o + 2,none⟩)) rfl hHeld ?_
   try simp only [sX]
   refine tkG (i:=4) (v:=.agg #[.int .i64 cca,.int .i64 ccn]) rfl (yieldsIf_load_mid (by kernel_rfl) 41 _ rfl b (o + 2) rfl [.int .i64 cca,.int .i64 ccn] _ (fun _ hS => HRC.out _ (HTR.out _ hS)) ikUnd rfl (HIL.out _ _)) hHeld ?_
   try simp only [sX]
   refine tkH (i:=5) (v:=.pointer (some ⟨b,o,none⟩)) rfl hHeld ?_
   try simp only [sX]
   refine tkH (i:=6) (v:=.pointer (some ⟨b,o,none⟩)) rfl hHeld ?_
   try simp only [sX]
   refine tkH (i:=7) (v:=.pointer (some ⟨b,o + 5,none⟩)) rfl hHeld ?_
   try simp only [sX]
   refine tkG (i:=8) (v:=.bool cfc) rfl (Or.inl ⟨by kernel_rfl,fun _ hS => ldBl_run _ rfl ⟨b,o + 5,none⟩ rfl _ (HF2.out _ (HTR.out _ hS))⟩) hHeld ?_
   try simp only [sX]
   refine tkG (i:=9) (v:=.int .i64 rt) rfl (Or.inl ⟨by kernel_rfl,fun _ hS => ldIn_run _ rfl ⟨bE,0,none⟩ rfl _ (HX.out _ (HTR.out _ hS)).2.2.2⟩) hHeld ?_
   try simp only [sX]
   refine wpAnyH_ready (rs:=[10,14]) (by kernel_rfl) (by simp) ?_
   refine AllReadyH.cons rfl (fun K hK => ?_) (AllReadyH.cons rfl (fun K hK => ?_) AllReadyH.nil)
   · skip
     go_simp
     refine (HG2.out _ (HTR.out _ hHeld)).mono ?_
     rintro e w1 ⟨rfl,hb1⟩
     try go_simp
     have hbb : Below wx.heap.size wx w1:=hHeld.trans (hb1.mono hHeld.size)
     refine hK.out _ _ hbb (fun hHeld1 => ?_)
     clear hK K hHeld
     have hHeld:=hHeld1
     try simp only [sX]
     refine tkH (i:=11) (v:=.tuple #[.agg #[.int .i64 ka,.int .i64 kn],.bool fk]) rfl hHeld ?_
     try simp only [sX]
     refine tkH (i:=12) (v:=.agg #[.int .i64 ka,.int .i64 kn]) rfl hHeld ?_
     try simp only [sX]
     refine tkH (i:=13) (v:=.bool fk) rfl hHeld ?_
     try simp only [sX]
     refine wpAnyH_ready (rs:=[14]) (by kernel_rfl) (by simp) ?_
     refine AllReadyH.cons rfl (fun K hK => ?_) AllReadyH.nil
     rw [if_pos (wanted_none rfl)]
     refine wp_runF (v:=.pointer (some ⟨w1.heap.size,0,none⟩)) (w':=w1.alloc (.cells #[.int .i64 0,.int .i64 0] 41)) (by kernel_rfl) ?_
     have hba : Below wx.heap.size wx (w1.alloc (.cells #[.int .i64 0,.int .i64 0] 41)):=hbb.alloc hbb.size _
     refine hK.out _ _ hba (fun hHeld1 => ?_)
     clear hK K hHeld
     have hHeld:=hHeld1
     try simp only [sX]
     have hg : (w1.alloc (.cells #[.int .i64 0,.int .i64 0] 41)).heap[w1.heap.size]? = some (.cells #[.int .i64 0,.int .i64 0] 41):=heap_alloc_new _ _
     have hgs : wx.heap.size ≤ w1.heap.size:=hbb.size
     generalize w1.alloc (.cells #[.int .i64 0,.int .i64 0] 41) = w2 at *
     generalize w1.heap.size = g at *
     refine wpAnyH_ready (rs:=[15]) (by kernel_rfl) (by simp) ?_
     refine AllReadyH.cons rfl (fun K hK => ?_) AllReadyH.nil
     rw [if_pos (wanted_none rfl)]
     refine wp_store_row 41 _ _ rfl g #[.int .i64 ka,.int .i64 kn] rfl rfl 41 #[.int .i64 0,.int .i64 0] hg (HIA.out _ _) rfl (by kernel_rfl) ?_
     have hbr:=below_row hHeld hgs #[.int .i64 ka,.int .i64 kn]
     have hgr : (w2.setRow g #[.int .i64 ka,.int .i64 kn]).heap[g]? = some (.cells #[.int .i64 ka,.int .i64 kn] 41):=setRow_heap _ _ _ _ _ _ hg
     refine hK.out _ _ hbr (fun hHeld1 => ?_)
     clear hK K
     rename_i _
     clear hHeld
     have hHeld:=hHeld1
     try simp only [sX]
     refine tkH (i:=16) (v:=.bool fk) rfl hHeld ?_
     try simp only [sX]
     refine wpAnyH_done (by kernel_rfl) ?_ _
     go_wp2_with fail
     go_meet
     exact ⟨g,rfl,rfl,Jh ⟨hbr,hgs,hgr⟩⟩
   · skip
     rw [if_pos (wanted_none rfl)]
     obtain ⟨w1,hw1⟩ : ∃ w1,w1 = wx.drew:=⟨_,rfl⟩
     rw [← hw1] at hHeld ⊢
     clear hw1
     refine wp_runF (v:=.pointer (some ⟨w1.heap.size,0,none⟩)) (w':=w1.alloc (.cells #[.int .i64 0,.int .i64 0] 41)) (by kernel_rfl) ?_
     have hba : Below wx.heap.size wx (w1.alloc (.cells #[.int .i64 0,.int .i64 0] 41)):=hHeld.alloc hHeld.size _
     have hg1 : (w1.alloc (.cells #[.int .i64 0,.int .i64 0] 41)).heap[w1.heap.size]? = some (.cells #[.int .i64 0,.int .i64 0] 41):=heap_alloc_new _ _
     have hgs : wx.heap.size ≤ w1.heap.size:=hHeld.size
     refine hK.out _ _ hba (fun hHeld1 => ?_)
     clear hK K hHeld hba
     have hHeld:=hHeld1
     clear hHeld1
     try simp only [sX]
     generalize w1.alloc (.cells #[.int .i64 0,.int .i64 0] 41) = w3 at *
     generalize w1.heap.size = g at *
     refine wpAnyH_ready (rs:=[10]) (by kernel_rfl) (by simp) ?_
     refine AllReadyH.cons rfl (fun K hK => ?_) AllReadyH.nil
     go_simp
     refine (HG2.out _ (HTR.out _ hHeld)).mono ?_
     rintro e w2 ⟨rfl,hb1⟩
     try go_simp
     have hbb : Below wx.heap.size wx w2:=hHeld.trans (hb1.mono hHeld.size)
     have hg : w2.heap[g]? = some (.cells #[.int .i64 0,.int .i64 0] 41):=(hb1.block g (Jg hg1).1).trans hg1
     refine hK.out _ _ hbb (fun hHeld1 => ?_)
     clear hK K hHeld hg1
     have hHeld:=hHeld1
     try simp only [sX]
     refine tkH (i:=11) (v:=.tuple #[.agg #[.int .i64 ka,.int .i64 kn],.bool fk]) rfl hHeld ?_
     try simp only [sX]
     refine tkH (i:=12) (v:=.agg #[.int .i64 ka,.int .i64 kn]) rfl hHeld ?_
     try simp only [sX]
     refine tkH (i:=13) (v:=.bool fk) rfl hHeld ?_
     try simp only [sX]
     refine wpAnyH_ready (rs:=[15]) (by kernel_rfl) (by simp) ?_
     refine AllReadyH.cons rfl (fun K hK => ?_) AllReadyH.nil
     rw [if_pos (wanted_none rfl)]
     refine wp_store_row 41 _ _ rfl g #[.int .i64 ka,.int .i64 kn] rfl rfl 41 #[.int .i64 0,.int .i64 0] hg (HIA.out _ _) rfl (by kernel_rfl) ?_
     have hbr:=below_row hHeld hgs #[.int .i64 ka,.int .i64 kn]
     have hgr : (w2.setRow g #[.int .i64 ka,.int .i64 kn]).heap[g]? = some (.cells #[.int .i64 ka,.int .i64 kn] 41):=setRow_heap _ _ _ _ _ _ hg
     refine hK.out _ _ hbr (fun hHeld1 => ?_)
     clear hK K
     rename_i _
     clear hHeld
     have hHeld:=hHeld1
     try simp only [sX]
     refine tkH (i:=16) (v:=.bool fk) rfl hHeld ?_
     try simp only [sX]
     refine wpAnyH_done (by kernel_rfl) ?_ _
     go_wp2_with fail
     go_meet
     exact ⟨g,rfl,rfl,Jh ⟨hbr,hgs,hgr⟩⟩
  case rest =>
   obtain ⟨g2,rfl,rfl,hcut⟩:=hcut
   obtain ⟨wy,hwy⟩ : ∃ wy,wy = wc:=⟨_,rfl⟩
   rw [← hwy] at hcut ⊢
   clear hwy
   obtain ⟨hbw2,hg2,hgr2⟩:=hcut.out
   obtain ⟨hbw1,hg1,hgr1⟩:=HB1.out
   have hb2 : Below w.heap.size w wy:=HTR.out _ hbw2
   have hg1' : wy.heap[g1]? = some (.cells #[.int .i64 ra,.int .i64 rn] 41):=(hbw2.block g1 (Jg hgr1).1).trans hgr1
   have hbN:=HB.out _ hb2
   have hb1 : b ≠ g1:=by have:=HBL.out.1; omega
   have hb2' : b ≠ g2:=by have:=HBL.out.1; have:=hbw1.size; omega
   have HY:=Jh (And.intro hb2 (And.intro hg1' (And.intro hgr2 (And.intro hbN (And.intro hb1 hb2')))))
   clear hcut hbw2 hg2 hgr2 hbw1 hg1 hgr1 hb2 hg1' hbN hb1 hb2' HTR HB HX HRR HRC HF1 HF2 HG1 HG2 HB1
   go_upto_region 3 with (fail)
   refine wp_region_held_drew (S:=fun wz => wz.rangeAt g1 0 [.int .i64 ra,.int .i64 rn] ∧ wz.rangeAt g2 0 [.int .i64 ka,.int .i64 kn]) (by kernel_rfl) ⟨row_rangeF (show wy.drew.heap[g1]? = _ from HY.out.2.1),row_rangeF (show wy.drew.heap[g2]? = _ from HY.out.2.2.1)⟩ (fun hHeld => ?_)
   refine tkH (i:=0) (v:=.pointer (some ⟨b,o,none⟩)) rfl hHeld ?_
   try simp only [sX]
   refine tkH (i:=1) (v:=.pointer (some ⟨b,o,none⟩)) rfl hHeld ?_
   try simp only [sX]
   refine tkG (i:=2) (v:=.agg #[.int .i64 ra,.int .i64 rn]) rfl (yieldsIf_load_mid (by kernel_rfl) 41 _ rfl g1 0 rfl [.int .i64 ra,.int .i64 rn] _ (fun _ hS => hS.1) ikUnd rfl (HIL.out _ _)) hHeld ?_
   try simp only [sX]
   refine tkG (i:=3) (v:=.agg #[.int .i64 ka,.int .i64 kn]) rfl (yieldsIf_load_mid (by kernel_rfl) 41 _ rfl g2 0 rfl [.int .i64 ka,.int .i64 kn] _ (fun _ hS => hS.2) ikUnd rfl (HIL.out _ _)) hHeld ?_
   try simp only [sX]
   refine tkH (i:=4) (v:=.pointer (some ⟨b,o,none⟩)) rfl hHeld ?_
   try simp only [sX]
   refine tkH (i:=5) (v:=.pointer (some ⟨b,o,none⟩)) rfl hHeld ?_
   try simp only [sX]
   have hNy : wy.drew.heap[b]? = some (.cells N 54):=HY.out.2.2.2.1
   have hkp : ∀ g,g ≠ b → wy.drew.heap[g]? = wy.heap[g]?:=fun g _ => rfl
   refine wpAnyH_ready (rs:=[6]) (by kernel_rfl) (by simp) ?_
   refine AllReadyH.cons rfl (fun K hK => ?_) AllReadyH.nil
   rw [if_pos (wanted_none rfl)]
   have hth : wy.drew.there b (o) 2:=there_of hNy (by have:=HBL.out.2; omega)
   refine wp_store_mid 41 _ _ rfl b (o) #[.int .i64 ra,.int .i64 rn] rfl rfl hth (HIA.out _ _) (by kernel_rfl) ?_
   have hr2 : ∀ g,g ≠ b → (wy.drew.setCells b (o) [.int .i64 ra,.int .i64 rn]).heap[g]? = wy.drew.heap[g]?:=fun g hg => heap_setCells_far b hg _ _ _
   have hN2 : (wy.drew.setCells b (o) [.int .i64 ra,.int .i64 rn]).heap[b]? = some (.cells ((N.setIfInBounds o (.int .i64 ra)).setIfInBounds (o + 1) (.int .i64 rn)) 54):=heap_setCell_same _ _ _ _ _ _ (heap_setCell_same _ _ _ _ _ _ hNy)
   refine hK.out _ _ ⟨range_far (hr2 g1 (Ne.symm HY.out.2.2.2.2.1)) hHeld.1,range_far (hr2 g2 (Ne.symm HY.out.2.2.2.2.2)) hHeld.2⟩ (fun hH1 => ?_)
   clear hK K hHeld; have hHeld:=hH1; clear hH1
   try simp only [sX]
   obtain ⟨wa,hwa⟩ : ∃ wa,wa = wy.drew.setCells b o [.int .i64 ra,.int .i64 rn]:=⟨_,rfl⟩
   have hba : Below w.heap.size w wy.drew:=HY.out.1.drew
   have hka : KeepA b w wa:=by rw [hwa]; exact (KeepA.of hba).trans (keepA_setCells _ _ _ _)
   rw [show (wy.drew.setCells b o [.int .i64 ra,.int .i64 rn]) = wa from hwa.symm] at hN2 hr2
   change wpAnyH _ _ _ _ _ _ _ _ (wy.drew.setCells b o [.int .i64 ra,.int .i64 rn])
   rw [← hwa] at hHeld ⊢
   clear hwa hba hNy hth
   refine tkH (i:=7) (v:=.pointer (some ⟨b,o,none⟩)) rfl hHeld ?_
   try simp only [sX]
   refine tkH (i:=8) (v:=.pointer (some ⟨b,o + 2,none⟩)) rfl hHeld ?_
   try simp only [sX]
   have hNa:=hN2
   clear hN2 hr2
   refine wpAnyH_ready (rs:=[9]) (by kernel_rfl) (by simp) ?_
   refine AllReadyH.cons rfl (fun K hK => ?_) AllReadyH.nil
   rw [if_pos (wanted_none rfl)]
   have hth : wa.there b (o + 2) 2:=there_of hNa (by have:=HBL.out.2; simp only [Array.size_setIfInBounds]; omega)
   refine wp_store_mid 41 _ _ rfl b (o + 2) #[.int .i64 ka,.int .i64 kn] rfl rfl hth (HIA.out _ _) (by kernel_rfl) ?_
   have hr2 : ∀ g,g ≠ b → (wa.setCells b (o + 2) [.int .i64 ka,.int .i64 kn]).heap[g]? = wa.heap[g]?:=fun g hg => heap_setCells_far b hg _ _ _
   have hN2 : (wa.setCells b (o + 2) [.int .i64 ka,.int .i64 kn]).heap[b]? = some (.cells ((((N.setIfInBounds o (.int .i64 ra)).setIfInBounds (o + 1) (.int .i64 rn)).setIfInBounds (o + 2) (.int .i64 ka)).setIfInBounds (o + 3) (.int .i64 kn)) 54):=heap_setCell_same _ _ _ _ _ _ (heap_setCell_same _ _ _ _ _ _ hNa)
   refine hK.out _ _ ⟨range_far (hr2 g1 (Ne.symm HY.out.2.2.2.2.1)) hHeld.1,range_far (hr2 g2 (Ne.symm HY.out.2.2.2.2.2)) hHeld.2⟩ (fun hH1 => ?_)
   clear hK K hHeld; have hHeld:=hH1; clear hH1
   try simp only [sX]
   refine wpAnyH_done (by kernel_rfl) ?_ _
   have hkf : KeepA b w (wa.setCells b (o + 2) [.int .i64 ka,.int .i64 kn]):=hka.trans (keepA_setCells _ _ _ _)
   have HFIN:=Jh (And.intro hN2 hkf)
   change Exit.then _ _ _ _ (wa.setCells b (o + 2) [.int .i64 ka,.int .i64 kn])
   generalize wa.setCells b (o + 2) [.int .i64 ka,.int .i64 kn] = wz at HFIN ⊢
   clear hHeld hN2 hr2 hkf hNa hka hth hkp
   cases fr <;> cases fk <;> (go_wp2; (first | go_ret | go_ret2); exact ⟨rfl,HFIN.out⟩)
end Go.Proofs.YtjobojfaocihfaaGreat
namespace Go.Proofs.YtjobojfaocihfaaGreat
set_option maxRecDepth 100000
set_option maxHeartbeats 4000000
set_option linter.unusedSimpArgs false
set_option linter.unusedVariables false
open Go Go.RowKit Go.Shelf Go.Maps
def goneF (wy : Wy) (t : Tr) : Tr:=match goneD wy t.d with | none => .mk lostND [] | some d' => .mk d' t.l
theorem mapT_gone (wy : Wy) (t : Tr) : mapT (goneF wy) t = goneT wy t:=by
 induction t using Tr.ind with
 | _ d l ih =>
  rw [mapT_mk,goneT_mk]
  have e : l.map (mapT (goneF wy)) = l.map (goneT wy):=List.map_congr_left ih
  rw [e]
  rfl
theorem goneX_ok {l : List Ik} (hl : ∀ x ∈ l,x.ok) {d : Int} {f : Bool} {y y' : Ik} (hy : y.ok) (h : goneX l d f y = some y') : y'.ok:=by
 unfold goneX at h
 cases f with
 | true => rw [if_pos rfl] at h; rw [← Option.some.inj h]; exact hy
 | false =>
  rw [if_neg (by decide)] at h
  rcases goneI_some h with ⟨-,rfl⟩ | ⟨p,q,hp,hq,-,-,rfl⟩
  · exact hy
  · exact hl _ (List.getElem_mem hq)
theorem Cn.ok_iff (c : Cn) : c.ok ↔ c.row'.ok ∧ c.col'.ok:=⟨fun h => ⟨⟨h.1,h.2.1⟩,h.2.2.1,h.2.2.2⟩,fun h => ⟨h.1.1,h.1.2,h.2.1,h.2.2⟩⟩
theorem goneC_ok {wy : Wy} (hr : ∀ x ∈ wy.rows,x.ok) (hc : ∀ x ∈ wy.cols,x.ok) {c c' : Cn} (h0 : c.ok) (h : goneC wy c = some c') : c'.ok:=by
 obtain ⟨r,k,h1,h2,rfl⟩:=goneC_some h
 obtain ⟨h3,h4⟩:=(Cn.ok_iff c).1 h0
 exact (Cn.ok_iff _).2 ⟨goneX_ok hr h3 h1,goneX_ok hc h4 h2⟩
theorem goneC_get {wy : Wy} {c c' : Cn} (h : goneC wy c = some c') {r k : Ik} (hr : r = (goneX wy.rows wy.down c.fr c.row').getD ⟨0,0⟩) (hk : k = (goneX wy.cols wy.right c.fc c.col').getD ⟨0,0⟩) : c' = c.put' r k:=by
 obtain ⟨r',k',h1,h2,rfl⟩:=goneC_some h
 rw [h1] at hr
 rw [h2] at hk
 subst hr
 subst hk
 rfl
theorem lost_ok : lostND.ok:=by
 refine ⟨?_,⟨?_,?_,?_,?_,?_⟩,?_,⟨?_,?_,?_,?_⟩,⟨?_,?_,?_,?_⟩,?_⟩ <;> decide
theorem put_a {d : ND} {A : Option Addr} {n c : Nat} (r k : Ik) : (((((nodeA d A n c).setIfInBounds 8 (.int .i64 r.a)).setIfInBounds (8 + 1) (.int .i64 r.n)).setIfInBounds (8 + 2) (.int .i64 k.a)).setIfInBounds (8 + 3) (.int .i64 k.n)) = nodeA { d with a:=d.a.put' r k } A n c:=rfl
theorem put_b {d : ND} {A : Option Addr} {n c : Nat} (r k : Ik) : (((((nodeA d A n c).setIfInBounds 14 (.int .i64 r.a)).setIfInBounds (14 + 1) (.int .i64 r.n)).setIfInBounds (14 + 2) (.int .i64 k.a)).setIfInBounds (14 + 3) (.int .i64 k.n)) = nodeA { d with b:=d.b.put' r k } A n c:=rfl
theorem infV6 : ∀ a b c d e f : Value,(Tryz.prog.info? 47).map (·.size) = some (#[a,b,c,d,e,f] : Array Value).size:=fun _ _ _ _ _ _ => by kernel_rfl
theorem undVl' : Tryz.prog.underlying 47 = some (.struct (Tryz.prog.fieldsOf 47)):=by kernel_rfl
theorem bad_c (w : World) : Calls Tryz.prog 62 #[.int .i64 3] w fun e w' => e = .returned (.agg #[.int .i64 4,.int .i64 0,.int .i64 0,.string ⟨#[]⟩,.bool false,.int .i64 3]) ∧ Below w.heap.size w w':=by
 obtain ⟨g,hg⟩ : ∃ g,g = w.heap.size:=⟨_,rfl⟩
 have hk : (w.alloc (.cells #[.int .i64 0,.int .i64 0,.int .i64 0,.string ⟨#[]⟩,.bool false,.int .i64 0] 47)).heap[g]? = some (.cells #[.int .i64 0,.int .i64 0,.int .i64 0,.string ⟨#[]⟩,.bool false,.int .i64 0] 47):=by rw [hg]; exact heap_alloc_new _ _
 have hb : Below w.heap.size w (w.alloc (.cells #[.int .i64 0,.int .i64 0,.int .i64 0,.string ⟨#[]⟩,.bool false,.int .i64 0] 47)):=(Below.refl _ w).alloc (Nat.le_refl _) _
 have HG:=Jh hg
 have HK:=Jh hk
 have HB:=Jh hb
 have HI:=Jh infV6
 clear hg hk hb
 go_enter Tryz.func62,Tryz.ntmps62
 go_upto_region 1 with (fail)
 rw [← HG.out]
 obtain ⟨W,hW⟩ : ∃ W,W = w.alloc (.cells #[.int .i64 0,.int .i64 0,.int .i64 0,.string ⟨#[]⟩,.bool false,.int .i64 0] 47):=⟨_,rfl⟩
 have HK2 : Hid (W.heap[g]? = some (.cells #[.int .i64 0,.int .i64 0,.int .i64 0,.string ⟨#[]⟩,.bool false,.int .i64 0] 47)):=Jh (by rw [hW]; exact HK.out)
 have HB2 : Hid (Below w.heap.size w W):=Jh (by rw [hW]; exact HB.out)
 change Code.wp _ _ _ _ (w.alloc (.cells #[.int .i64 0,.int .i64 0,.int .i64 0,.string ⟨#[]⟩,.bool false,.int .i64 0] 47))
 rw [← hW]
 clear hW HK HB
 go_wp2_with (first | (refine wpList_buildSome rfl 47 _ rfl #[.int .i64 4,.int .i64 0,.int .i64 0,.string ⟨#[]⟩,.bool false,.int .i64 3] ?_ ?_; focus (kernel_rfl)) | (refine wpList_store_row rfl 47 _ _ rfl g #[.int .i64 4,.int .i64 0,.int .i64 0,.string ⟨#[]⟩,.bool false,.int .i64 3] rfl rfl 47 #[.int .i64 0,.int .i64 0,.int .i64 0,.string ⟨#[]⟩,.bool false,.int .i64 0] HK2.out (HI.out _ _ _ _ _ _) rfl (by kernel_rfl) ?_) | fail)
 refine bodyPost_ret (v:=.agg #[.int .i64 4,.int .i64 0,.int .i64 0,.string ⟨#[]⟩,.bool false,.int .i64 3]) (results_cell_row rfl _ _ g 47 #[.int .i64 4,.int .i64 0,.int .i64 0,.string ⟨#[]⟩,.bool false,.int .i64 3] (0,0) _ rfl (setRow_heap _ _ _ _ _ _ HK2.out) undVl' rfl (HI.out _ _ _ _ _ _)) rfl ?_
 exact ⟨rfl,below_row HB2.out (by rw [HG.out]; exact Nat.le_refl _) _⟩
theorem shiftF_c {w0 : World} {bG bR bD bC bE p q : Nat} {L M : IL} {dn rt : Int} (hJ0 : GoJ w0 bR bD bC bE p q L M dn rt) (hbG : w0.heap[bG]? = some (.cells #[.func (.func 59) #[] #[.pointer (some ⟨bR, 0, none⟩), .pointer (some ⟨bD, 0, none⟩), .pointer (some ⟨bC, 0, none⟩), .pointer (some ⟨bE, 0, none⟩)]] 137))
 (hL : L.Ok) (hM : M.Ok) (hdn : -1000000 ≤ dn ∧ dn ≤ 1000000) (hrt : -1000000 ≤ rt ∧ rt ≤ 1000000) :
 FOk Tryz.prog 61 #[.pointer (some ⟨bG,0,none⟩)] (goneF ⟨L.alive,M.alive,dn,rt⟩) w0.heap.size (fun _ w => Below w0.heap.size w0 w):=by
 intro k wx d l A c G hj hlo hd hs hG hl
 have hor : ∀ x ∈ L.alive,x.ok:=fun x hx => hL.ok x (IL.alive_ids hx)
 have hoc : ∀ x ∈ M.alive,x.ok:=fun x hx => hM.ok x (IL.alive_ids hx)
 have hend : ∀ w',Below wx.heap.size wx w' → SlG w' G A c l ∧ Below w0.heap.size w0 w' ∧ wx.heap.size ≤ w'.heap.size ∧ (∀ b,w0.heap.size ≤ b → b < wx.heap.size → w'.heap[b]? = wx.heap[b]?):=fun w' hb =>
  ⟨hs.keep (fun b o hg => hg) (fun b o hg i _ => World.cell?_of_block (a:=⟨b,o + i,none⟩) (hb.block b (hG b o hg).2)),hj.trans (hb.mono hlo),hb.size,fun b _ h => hb.block b h⟩
 have hlost : goneD ⟨L.alive,M.alive,dn,rt⟩ d = none → ∀ w',Below wx.heap.size wx w' → ∃ A' c',(Ending.returned (.agg (nodeA lostND none 0 0)) : Ending) = .returned (nodeV (goneF ⟨L.alive,M.alive,dn,rt⟩ (.mk d l)).d A' (goneF ⟨L.alive,M.alive,dn,rt⟩ (.mk d l)).l.length c') ∧ (goneF ⟨L.alive,M.alive,dn,rt⟩ (.mk d l)).d.ok ∧ SlG w' G A' c' (goneF ⟨L.alive,M.alive,dn,rt⟩ (.mk d l)).l ∧ Below w0.heap.size w0 w' ∧ wx.heap.size ≤ w'.heap.size ∧ (∀ b,w0.heap.size ≤ b → b < wx.heap.size → w'.heap[b]? = wx.heap[b]?):=by
  intro hn w' hb
  have e : goneF ⟨L.alive,M.alive,dn,rt⟩ (.mk d l) = .mk lostND []:=by
   unfold goneF; show (match goneD _ d with | none => _ | some d' => _) = _; rw [hn]
  rw [e]
  obtain ⟨h1,h2,h3,h4⟩:=hend w' hb
  exact ⟨none,0,rfl,lost_ok,⟨Nat.le_refl _,by omega,.inl rfl⟩,h2,h3,h4⟩
 have hstay : ∀ d',goneD ⟨L.alive,M.alive,dn,rt⟩ d = some d' → d'.ok → ∀ w',Below wx.heap.size wx w' → ∃ A' c',(Ending.returned (.agg (nodeA d' A l.length c)) : Ending) = .returned (nodeV (goneF ⟨L.alive,M.alive,dn,rt⟩ (.mk d l)).d A' (goneF ⟨L.alive,M.alive,dn,rt⟩ (.mk d l)).l.length c') ∧ (goneF ⟨L.alive,M.alive,dn,rt⟩ (.mk d l)).d.ok ∧ SlG w' G A' c' (goneF ⟨L.alive,M.alive,dn,rt⟩ (.mk d l)).l ∧ Below w0.heap.size w0 w' ∧ wx.heap.size ≤ w'.heap.size ∧ (∀ b,w0.heap.size ≤ b → b < wx.heap.size → w'.heap[b]? = wx.heap[b]?):=by
  intro d' hn hok w' hb
  have e : goneF ⟨L.alive,M.alive,dn,rt⟩ (.mk d l) = .mk d' l:=by
   unfold goneF; show (match goneD _ d with | none => _ | some d' => _) = _; rw [hn]; rfl
  rw [e]
  obtain ⟨h1,h2,h3,h4⟩:=hend w' hb
  exact ⟨A,c,rfl,hok,h1,h2,h3,h4⟩
 obtain ⟨n,hn⟩ : ∃ n,n = l.length:=⟨_,rfl⟩
 obtain ⟨N,hN⟩ : ∃ N,N = nodeA d A n c:=⟨_,rfl⟩
 obtain ⟨W,hW⟩ : ∃ W,W = (wx.alloc (.cells N 54)).alloc (.cells (nodeA zD none 0 0) 54):=⟨_,rfl⟩
 obtain ⟨g,hg⟩ : ∃ g,g = wx.heap.size:=⟨_,rfl⟩
 have hWs : W.heap.size = g + 2:=by rw [hW,hg]; simp
 have hk0 : W.heap[g]? = some (.cells N 54):=by rw [hW,hg]; exact (heapOld _ _ _ (by simp)).trans (heap_alloc_new _ _)
 have hk1 : W.heap[g + 1]? = some (.cells (nodeA zD none 0 0) 54):=by
  rw [hW,hg]; have:=heap_alloc_new (wx.alloc (.cells N 54)) (.cells (nodeA zD none 0 0) 54); rwa [World.size_alloc] at this
 have hbW : Below wx.heap.size wx W:=by rw [hW]; exact ((Below.refl _ wx).alloc (Nat.le_refl _) _).alloc (by simp) _
 have hjW : Below w0.heap.size w0 W:=hj.trans (hbW.mono hlo)
 have hNs : N.size = 22:=by rw [hN]; rfl
 have hcK : W.cell? ⟨g,0,none⟩ = some (.int .i64 d.kind):=by rw [Lib.cell_of_heap hk0,hN]; rfl
 have hcG : W.cell? ⟨bG,0,none⟩ = some (.func (.func 59) #[] #[.pointer (some ⟨bR,0,none⟩),.pointer (some ⟨bD,0,none⟩),.pointer (some ⟨bC,0,none⟩),.pointer (some ⟨bE,0,none⟩)]):=by
  rw [Lib.cell_of_heap ((hjW.block bG (Jg hbG).1).trans hbG)]; rfl
 have hgo : ∀ (W1 : World) (d1 : ND),Below w0.heap.size w0 W1 → W1.heap[g]? = some (.cells (nodeA d1 A n c) 54) → d1.ok → True:=fun _ _ _ _ _ => trivial
 have hda:=(Cn.ok_iff d.a).1 hd.2.2.2.1
 have hdb:=(Cn.ok_iff d.b).1 hd.2.2.2.2.1
 have HGA:=Jh (goes_c (o:=8) hJ0 (by rw [hg]; exact hlo : w0.heap.size ≤ g) hjW hL hM hdn hrt (by rw [hk0,hN]) d.a hda rfl rfl rfl rfl rfl rfl)
 have HGB:=Jh (fun (W1 : World) (d1 : ND) (h1 : Below w0.heap.size w0 W1) (h2 : W1.heap[g]? = some (.cells (nodeA { d with a:=d1.a } A n c) 54)) => goes_c (o:=14) hJ0 (by rw [hg]; exact hlo : w0.heap.size ≤ g) h1 hL hM hdn hrt h2 d.b hdb rfl rfl rfl rfl rfl rfl)
 rw [nodeV,← hn,← hN]
 rw [← hn] at hstay
 have hkb : ∀ (W1 : World),KeepA g W W1 → Below wx.heap.size wx W1 ∧ W1.heap[g + 1]? = some (.cells (nodeA zD none 0 0) 54) ∧ Below w0.heap.size w0 W1 ∧ W1.cell? ⟨bG,0,none⟩ = W.cell? ⟨bG,0,none⟩:=fun W1 hk => by
  have hb : Below wx.heap.size wx W1:=⟨hk.os.trans hbW.os,hk.tape.trans hbW.tape,hk.output.trans hbW.output,Nat.le_trans hbW.size hk.size,fun b hb => (hk.block b (Nat.lt_of_lt_of_le hb hbW.size) (by omega)).trans (hbW.block b hb)⟩
  have hbGl : bG < w0.heap.size:=(Jg hbG).1
  exact ⟨hb,(hk.block (g + 1) (by omega) (by omega)).trans hk1,hj.trans (hb.mono hlo),World.cell?_of_block (a:=⟨bG,0,none⟩) (hk.block bG (by have:=hbW.size; omega) (by omega))⟩
 have HKB:=Jh hkb
 have HBAD:=Jh bad_c
 have HEND:=Jh (fun (W1 : World) (cs : Array Value) (h : Below wx.heap.size wx W1) => show Below wx.heap.size wx (W1.setRow (g + 1) cs) from below_row h (by omega) _)
 have HBW:=Jh hbW
 have HW:=Jh hW
 have HG:=Jh hg
 have HK0:=Jh hk0
 have HK1:=Jh hk1
 have HN:=Jh hN
 have HNS:=Jh hNs
 have HNo : Hid (N.all (·.oneCell') = true):=Jh (by rw [hN]; exact node_one _ _ _ _)
 have HLOST:=Jh hlost
 have HSTAY:=Jh hstay
 have HD:=Jh hd
 have HOR:=Jh (And.intro hor hoc)
 have hLN : ∃ LN,LN = nodeA lostND none 0 0:=⟨_,rfl⟩
 obtain ⟨LN,hLN⟩:=hLN
 rw [← hLN] at HLOST
 have HLN:=Jh hLN
 have HLS : Hid (LN.size = 22):=Jh (by rw [hLN]; rfl)
 have HLO : Hid (LN.all (·.oneCell') = true):=Jh (by rw [hLN]; exact node_one _ _ _ _)
 have HDO:=Jh (show ∀ d1 : ND,(nodeA d1 A n c).size = 22 ∧ (nodeA d1 A n c).all (·.oneCell') = true from fun d1 => ⟨rfl,node_one _ _ _ _⟩)
 have HPG:=Jh (show ∀ c' r k,goneC ⟨L.alive,M.alive,dn,rt⟩ d.a = some c' → r = (goneX L.alive dn d.a.fr d.a.row').getD ⟨0,0⟩ → k = (goneX M.alive rt d.a.fc d.a.col').getD ⟨0,0⟩ → d.a.put' r k = c' from fun c' r k h1 h2 h3 => (goneC_get h1 h2 h3).symm)
 have HPH:=Jh (show ∀ c' r k,goneC ⟨L.alive,M.alive,dn,rt⟩ d.b = some c' → r = (goneX L.alive dn d.b.fr d.b.row').getD ⟨0,0⟩ → k = (goneX M.alive rt d.b.fc d.b.col').getD ⟨0,0⟩ → d.b.put' r k = c' from fun c' r k h1 h2 h3 => (goneC_get h1 h2 h3).symm)
 clear hj hlo hs hG hl hend hlost hstay hn hN hW hg hWs hk0 hk1 hbW hjW hNs hgo hda hdb hkb hor hoc hJ0 hbG hL hM hdn hrt hLN hd
 go_enter Tryz.func61,Tryz.ntmps61
 go_upto_region 1 with (first | (refine wpList_nodeVar rfl rfl (wx.heap.size + 1) (by simp) ?_; change wpList _ _ _ _ _ ((wx.alloc (.cells N 54)).alloc (.cells (nodeA zD none 0 0) 54)); rw [← HW.out]) | fail)
 rw [← HG.out]
 obtain ⟨kd,hkd⟩ : ∃ kd,d.kind = kd:=⟨_,rfl⟩
 rw [hkd] at hcK
 have HKD:=Jh hkd
 clear hkd
 by_cases h1 : kd = 1
 · subst h1
   cases hga : goneC ⟨L.alive,M.alive,dn,rt⟩ d.a with
   | none =>
    rw [hga,Option.isSome_none] at HGA
    have HLOST:=Jh (HLOST.out (by unfold goneD; rw [HKD.out,if_pos (by decide),hga]; rfl))
    clear hga HSTAY HPG HPH HGB
    go_upto_region 8 with (first | (go_at_call 59; refine HGA.out.mono ?_; rintro e w1 ⟨r,k,hr,hk,rfl,hN1,hK1⟩; have HC1:=Jh (And.intro hr (And.intro hk (And.intro hN1 hK1))); clear hr hk hN1 hK1) | fail)
    obtain ⟨hb1,hz1,-,-⟩:=HKB.out w1 HC1.out.2.2.2
    have HZ1:=Jh hz1
    have HB1:=Jh hb1
    clear hz1 hb1 hcK hcG
    go_wp2_with (first | (go_at_call 62; refine (HBAD.out _).mono ?_; rintro e w9 ⟨rfl,hb9⟩; have HB9:=Jh hb9; clear hb9) | (refine wpList_buildSome rfl 54 _ rfl LN ?_ ?_; focus (rw [HLN.out]; kernel_rfl)) | (refine wpList_store_row rfl 54 _ _ rfl (g + 1) LN rfl rfl 54 (nodeA zD none 0 0) ((HB9.out.block (g + 1) (Jg HZ1.out).1).trans HZ1.out) (infS HLS.out) HLS.out.symm HLO.out ?_) | fail)
    refine bodyPost_ret (v:=.agg LN) (results_cell_row rfl _ _ (g + 1) 54 LN (0,0) _ rfl (setRow_heap _ _ _ _ _ _ ((HB9.out.block (g + 1) (Jg HZ1.out).1).trans HZ1.out)) undN rfl (infS HLS.out)) rfl ?_
    exact HLOST.out _ (HEND.out _ _ (HB1.out.trans (HB9.out.mono HB1.out.size)))
   | some a' =>
    rw [hga,Option.isSome_some] at HGA
    have HSTAY:=Jh (HSTAY.out { d with a:=a' } (by unfold goneD; rw [HKD.out,if_pos (by decide),hga]; rfl) ⟨HD.out.1,HD.out.2.1,HD.out.2.2.1,goneC_ok HOR.out.1 HOR.out.2 HD.out.2.2.2.1 hga,HD.out.2.2.2.2⟩)
    have HPG:=Jh (HPG.out a' · · hga)
    clear hga HLOST HPH HGB
    go_upto_region 8 with (first | (go_at_call 59; refine HGA.out.mono ?_; rintro e w1 ⟨r,k,hr,hk,rfl,hN1,hK1⟩; have HC1:=Jh (And.intro hr (And.intro hk (And.intro hN1 hK1))); clear hr hk hN1 hK1) | fail)
    obtain ⟨hb1,hz1,-,-⟩:=HKB.out w1 HC1.out.2.2.2
    have HZ1:=Jh hz1
    have HB1:=Jh hb1
    obtain ⟨D1,hD1⟩ : ∃ D1 : ND,D1 = { d with a:=a' }:=⟨_,rfl⟩
    rw [← hD1] at HSTAY
    have HN1 : Hid (w1.heap[g]? = some (.cells (nodeA D1 A n c) 54)):=Jh (by rw [HC1.out.2.2.1,put_a,HPG.out _ _ HC1.out.1 HC1.out.2.1,hD1])
    clear hz1 hb1 hcK hcG hD1
    go_wp2_with (first | (refine wpList_row rfl 54 _ rfl g rfl 54 (nodeA D1 A n c) (0,0) _ HN1.out undN rfl (infS (HDO.out D1).1) ?_) | (refine wpList_store_row rfl 54 _ _ rfl (g + 1) (nodeA D1 A n c) rfl rfl 54 (nodeA zD none 0 0) HZ1.out (infS (HDO.out D1).1) rfl (HDO.out D1).2 ?_) | fail)
    refine bodyPost_ret (v:=.agg (nodeA D1 A n c)) (results_cell_row rfl _ _ (g + 1) 54 (nodeA D1 A n c) (0,0) _ rfl (setRow_heap _ _ _ _ _ _ HZ1.out) undN rfl (infS (HDO.out D1).1)) rfl ?_
    exact HSTAY.out _ (HEND.out _ _ HB1.out)
 by_cases h3 : kd = 3
 · subst h3
   cases hga : goneC ⟨L.alive,M.alive,dn,rt⟩ d.a with
   | none =>
    rw [hga,Option.isSome_none] at HGA
    have HLOST:=Jh (HLOST.out (by unfold goneD; rw [HKD.out,if_pos (by decide),hga]; rfl))
    clear hga HSTAY HPG HPH HGB
    go_upto_region 8 with (first | (go_at_call 59; refine HGA.out.mono ?_; rintro e w1 ⟨r,k,hr,hk,rfl,hN1,hK1⟩; have HC1:=Jh (And.intro hr (And.intro hk (And.intro hN1 hK1))); clear hr hk hN1 hK1) | fail)
    obtain ⟨hb1,hz1,-,-⟩:=HKB.out w1 HC1.out.2.2.2
    have HZ1:=Jh hz1
    have HB1:=Jh hb1
    clear hz1 hb1 hcK hcG
    go_wp2_with (first | (go_at_call 62; refine (HBAD.out _).mono ?_; rintro e w9 ⟨rfl,hb9⟩; have HB9:=Jh hb9; clear hb9) | (refine wpList_buildSome rfl 54 _ rfl LN ?_ ?_; focus (rw [HLN.out]; kernel_rfl)) | (refine wpList_store_row rfl 54 _ _ rfl (g + 1) LN rfl rfl 54 (nodeA zD none 0 0) ((HB9.out.block (g + 1) (Jg HZ1.out).1).trans HZ1.out) (infS HLS.out) HLS.out.symm HLO.out ?_) | fail)
    refine bodyPost_ret (v:=.agg LN) (results_cell_row rfl _ _ (g + 1) 54 LN (0,0) _ rfl (setRow_heap _ _ _ _ _ _ ((HB9.out.block (g + 1) (Jg HZ1.out).1).trans HZ1.out)) undN rfl (infS HLS.out)) rfl ?_
    exact HLOST.out _ (HEND.out _ _ (HB1.out.trans (HB9.out.mono HB1.out.size)))
   | some a' =>
    rw [hga,Option.isSome_some] at HGA
    have HSTAY:=Jh (HSTAY.out { d with a:=a' } (by unfold goneD; rw [HKD.out,if_pos (by decide),hga]; rfl) ⟨HD.out.1,HD.out.2.1,HD.out.2.2.1,goneC_ok HOR.out.1 HOR.out.2 HD.out.2.2.2.1 hga,HD.out.2.2.2.2⟩)
    have HPG:=Jh (HPG.out a' · · hga)
    clear hga HLOST HPH HGB
    go_upto_region 8 with (first | (go_at_call 59; refine HGA.out.mono ?_; rintro e w1 ⟨r,k,hr,hk,rfl,hN1,hK1⟩; have HC1:=Jh (And.intro hr (And.intro hk (And.intro hN1 hK1))); clear hr hk hN1 hK1) | fail)
    obtain ⟨hb1,hz1,-,-⟩:=HKB.out w1 HC1.out.2.2.2
    have HZ1:=Jh hz1
    have HB1:=Jh hb1
    obtain ⟨D1,hD1⟩ : ∃ D1 : ND,D1 = { d with a:=a' }:=⟨_,rfl⟩
    rw [← hD1] at HSTAY
    have HN1 : Hid (w1.heap[g]? = some (.cells (nodeA D1 A n c) 54)):=Jh (by rw [HC1.out.2.2.1,put_a,HPG.out _ _ HC1.out.1 HC1.out.2.1,hD1])
    clear hz1 hb1 hcK hcG hD1
    go_wp2_with (first | (refine wpList_row rfl 54 _ rfl g rfl 54 (nodeA D1 A n c) (0,0) _ HN1.out undN rfl (infS (HDO.out D1).1) ?_) | (refine wpList_store_row rfl 54 _ _ rfl (g + 1) (nodeA D1 A n c) rfl rfl 54 (nodeA zD none 0 0) HZ1.out (infS (HDO.out D1).1) rfl (HDO.out D1).2 ?_) | fail)
    refine bodyPost_ret (v:=.agg (nodeA D1 A n c)) (results_cell_row rfl _ _ (g + 1) 54 (nodeA D1 A n c) (0,0) _ rfl (setRow_heap _ _ _ _ _ _ HZ1.out) undN rfl (infS (HDO.out D1).1)) rfl ?_
    exact HSTAY.out _ (HEND.out _ _ HB1.out)
 by_cases h2 : kd = 2
 · subst h2
   have HCG:=Jh hcG
   cases hga : goneC ⟨L.alive,M.alive,dn,rt⟩ d.a with
   | none =>
    rw [hga,Option.isSome_none] at HGA
    have HLOST:=Jh (HLOST.out (by unfold goneD; rw [HKD.out,if_neg (by decide),if_pos rfl,hga]))
    clear hga HSTAY HPG HPH HGB
    go_upto_region 8 with (first | (go_at_call 59; refine HGA.out.mono ?_; rintro e w1 ⟨r,k,hr,hk,rfl,hN1,hK1⟩; have HC1:=Jh (And.intro hr (And.intro hk (And.intro hN1 hK1))); clear hr hk hN1 hK1) | fail)
    obtain ⟨hb1,hz1,-,-⟩:=HKB.out w1 HC1.out.2.2.2
    have HZ1:=Jh hz1
    have HB1:=Jh hb1
    clear hz1 hb1 hcK hcG
    go_wp2_with (first | (go_at_call 62; refine (HBAD.out _).mono ?_; rintro e w9 ⟨rfl,hb9⟩; have HB9:=Jh hb9; clear hb9) | (refine wpList_buildSome rfl 54 _ rfl LN ?_ ?_; focus (rw [HLN.out]; kernel_rfl)) | (refine wpList_store_row rfl 54 _ _ rfl (g + 1) LN rfl rfl 54 (nodeA zD none 0 0) ((HB9.out.block (g + 1) (Jg HZ1.out).1).trans HZ1.out) (infS HLS.out) HLS.out.symm HLO.out ?_) | fail)
    refine bodyPost_ret (v:=.agg LN) (results_cell_row rfl _ _ (g + 1) 54 LN (0,0) _ rfl (setRow_heap _ _ _ _ _ _ ((HB9.out.block (g + 1) (Jg HZ1.out).1).trans HZ1.out)) undN rfl (infS HLS.out)) rfl ?_
    exact HLOST.out _ (HEND.out _ _ (HB1.out.trans (HB9.out.mono HB1.out.size)))
   | some a' =>
    rw [hga,Option.isSome_some] at HGA
    have HPG:=Jh (HPG.out a' · · hga)
    have HGB:=Jh (fun W1 => HGB.out W1 { d with a:=a' })
    cases hgb : goneC ⟨L.alive,M.alive,dn,rt⟩ d.b with
    | none =>
     rw [hgb,Option.isSome_none] at HGB
     have HLOST:=Jh (HLOST.out (by unfold goneD; rw [HKD.out,if_neg (by decide),if_pos rfl,hga,hgb]))
     clear hga hgb HSTAY HPH
     go_upto_region 8 with (first | (go_at_call_of 59 (Value.pointer (some ⟨g,8,none⟩)); refine HGA.out.mono ?_; rintro e w1 ⟨r,k,hr,hk,rfl,hN1,hK1⟩; have HC1:=Jh (And.intro hr (And.intro hk (And.intro hN1 hK1))); clear hr hk hN1 hK1; have hcG1:=(HKB.out w1 HC1.out.2.2.2).2.2.2.trans HCG.out) | (go_at_call_of 59 (Value.pointer (some ⟨g,14,none⟩)); refine (HGB.out w1 (HKB.out w1 HC1.out.2.2.2).2.2.1 (HC1.out.2.2.1.trans (by rw [put_a,HPG.out _ _ HC1.out.1 HC1.out.2.1]))).mono ?_; rintro e w2 ⟨r2,k2,hr2,hk2,rfl,hN2,hK2⟩; have HC2:=Jh (And.intro hr2 (And.intro hk2 (And.intro hN2 hK2))); clear hr2 hk2 hN2 hK2) | fail)
     obtain ⟨hb1,hz1,-,-⟩:=HKB.out w2 (HC1.out.2.2.2.trans HC2.out.2.2.2)
     have HZ1:=Jh hz1
     have HB1:=Jh hb1
     clear hz1 hb1 hcK hcG hcG1
     go_wp2_with (first | (go_at_call 62; refine (HBAD.out _).mono ?_; rintro e w9 ⟨rfl,hb9⟩; have HB9:=Jh hb9; clear hb9) | (refine wpList_buildSome rfl 54 _ rfl LN ?_ ?_; focus (rw [HLN.out]; kernel_rfl)) | (refine wpList_store_row rfl 54 _ _ rfl (g + 1) LN rfl rfl 54 (nodeA zD none 0 0) ((HB9.out.block (g + 1) (Jg HZ1.out).1).trans HZ1.out) (infS HLS.out) HLS.out.symm HLO.out ?_) | fail)
     refine bodyPost_ret (v:=.agg LN) (results_cell_row rfl _ _ (g + 1) 54 LN (0,0) _ rfl (setRow_heap _ _ _ _ _ _ ((HB9.out.block (g + 1) (Jg HZ1.out).1).trans HZ1.out)) undN rfl (infS HLS.out)) rfl ?_
     exact HLOST.out _ (HEND.out _ _ (HB1.out.trans (HB9.out.mono HB1.out.size)))
    | some b' =>
     rw [hgb,Option.isSome_some] at HGB
     have HSTAY:=Jh (HSTAY.out { d with a:=a',b:=b' } (by unfold goneD; rw [HKD.out,if_neg (by decide),if_pos rfl,hga,hgb]) ⟨HD.out.1,HD.out.2.1,HD.out.2.2.1,goneC_ok HOR.out.1 HOR.out.2 HD.out.2.2.2.1 hga,goneC_ok HOR.out.1 HOR.out.2 HD.out.2.2.2.2.1 hgb,HD.out.2.2.2.2.2⟩)
     have HPH:=Jh (HPH.out b' · · hgb)
     clear hga hgb HLOST
     go_upto_region 8 with (first | (go_at_call_of 59 (Value.pointer (some ⟨g,8,none⟩)); refine HGA.out.mono ?_; rintro e w1 ⟨r,k,hr,hk,rfl,hN1,hK1⟩; have HC1:=Jh (And.intro hr (And.intro hk (And.intro hN1 hK1))); clear hr hk hN1 hK1; have hcG1:=(HKB.out w1 HC1.out.2.2.2).2.2.2.trans HCG.out) | (go_at_call_of 59 (Value.pointer (some ⟨g,14,none⟩)); refine (HGB.out w1 (HKB.out w1 HC1.out.2.2.2).2.2.1 (HC1.out.2.2.1.trans (by rw [put_a,HPG.out _ _ HC1.out.1 HC1.out.2.1]))).mono ?_; rintro e w2 ⟨r2,k2,hr2,hk2,rfl,hN2,hK2⟩; have HC2:=Jh (And.intro hr2 (And.intro hk2 (And.intro hN2 hK2))); clear hr2 hk2 hN2 hK2) | fail)
     obtain ⟨hb1,hz1,-,-⟩:=HKB.out w2 (HC1.out.2.2.2.trans HC2.out.2.2.2)
     have HZ1:=Jh hz1
     have HB1:=Jh hb1
     obtain ⟨D1,hD1⟩ : ∃ D1 : ND,D1 = { d with a:=a',b:=b' }:=⟨_,rfl⟩
     rw [← hD1] at HSTAY
     have HN1 : Hid (w2.heap[g]? = some (.cells (nodeA D1 A n c) 54)):=Jh (by rw [HC2.out.2.2.1,put_b,HPH.out _ _ HC2.out.1 HC2.out.2.1,hD1])
     clear hz1 hb1 hcK hcG hcG1 hD1
     go_wp2_with (first | (refine wpList_row rfl 54 _ rfl g rfl 54 (nodeA D1 A n c) (0,0) _ HN1.out undN rfl (infS (HDO.out D1).1) ?_) | (refine wpList_store_row rfl 54 _ _ rfl (g + 1) (nodeA D1 A n c) rfl rfl 54 (nodeA zD none 0 0) HZ1.out (infS (HDO.out D1).1) rfl (HDO.out D1).2 ?_) | fail)
     refine bodyPost_ret (v:=.agg (nodeA D1 A n c)) (results_cell_row rfl _ _ (g + 1) 54 (nodeA D1 A n c) (0,0) _ rfl (setRow_heap _ _ _ _ _ _ HZ1.out) undN rfl (infS (HDO.out D1).1)) rfl ?_
     exact HSTAY.out _ (HEND.out _ _ HB1.out)
 have HSTAY:=Jh (HSTAY.out d (by unfold goneD; rw [HKD.out,if_neg (by omega),if_neg h2]) HD.out)
 have HN1 : Hid (W.heap[g]? = some (.cells (nodeA d A n c) 54)):=Jh (by rw [HK0.out,HN.out])
 have HZ1:=HK1
 clear HLOST HPG HPH HGA HGB
 go_wp2_with (first | (refine wpList_row rfl 54 _ rfl g rfl 54 (nodeA d A n c) (0,0) _ HN1.out undN rfl (infS (HDO.out d).1) ?_) | (refine wpList_store_row rfl 54 _ _ rfl (g + 1) (nodeA d A n c) rfl rfl 54 (nodeA zD none 0 0) HZ1.out (infS (HDO.out d).1) rfl (HDO.out d).2 ?_) | fail)
 refine bodyPost_ret (v:=.agg (nodeA d A n c)) (results_cell_row rfl _ _ (g + 1) 54 (nodeA d A n c) (0,0) _ rfl (setRow_heap _ _ _ _ _ _ HZ1.out) undN rfl (infS (HDO.out d).1)) rfl ?_
 exact HSTAY.out _ (HEND.out _ _ HBW.out)
end Go.Proofs.YtjobojfaocihfaaGreat
