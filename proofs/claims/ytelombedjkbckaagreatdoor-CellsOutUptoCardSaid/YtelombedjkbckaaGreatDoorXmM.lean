/- Law 18's Small. -/
import Derived.Test.YtelombedjkbckaaGreatDoorBaStSqXa
import Derived.Test.YtelombedjkbckaaGreatDoorOvNoGtCu
namespace Go.Proofs.YtelombedjkbckaaGreatDoor
set_option maxRecDepth 100000
set_option maxHeartbeats 2000000
open Go Go.RowKit Go.Shelf
def bigC (x : Ct) : Bool:=decide (300 < x.v.text.size) || greatB x.t
def smallI (x : Ct) : Int:=if bigC x = true then 0 else 1
theorem small_c (x : Ct) (w : World) (B : Nat) (A : Option Addr) (c : Nat) (hv : x.v.ok) (hd : x.t.d.ok) (hs : SlAt w B A c x.t.l) (hB : B ≤ w.heap.size) (hsz : x.t.size ≤ 1048576) :
 Calls Tryz.prog 12 #[contV x A c] w fun e w' => e = .returned (.int .i64 (smallI x)) ∧ Below w.heap.size w w':=by
 obtain ⟨W0,hW0⟩ : ∃ W0,W0 = w.alloc (.cells (contA x A c) 43):=⟨_,rfl⟩
 have hbel : Below w.heap.size w W0:=by rw [hW0]; exact (Below.refl _ w).alloc (Nat.le_refl _) _
 have hz0 : W0.heap.size = w.heap.size + 1:=by rw [hW0]; simp
 have hk0 : W0.heap[w.heap.size]? = some (.cells (contA x A c) 43):=by rw [hW0]; exact heap_alloc_new _ _
 have hG:=great_c x.t W0 B A c hd ((hs.below (hbel.mono hB))) (by have:=hbel.size; omega) hsz
 have hrow:=cont_row hk0
 have ht:=hrow.2.1 3 _ rfl
 have hts : x.v.text.size ≤ 9223372036854775807:=hv.2.2.2.1
 have hr7:=hrow.2.2
 have hinf:=infNl x.t.d A x.t.l.length c
 obtain ⟨N,hN⟩ : ∃ N,N = nodeA x.t.d A x.t.l.length c:=⟨_,rfl⟩
 rw [nodeV,← hN] at hG
 rw [← hN] at hr7 hinf
 obtain ⟨CA,hCA⟩ : ∃ C,C = contA x A c:=⟨_,rfl⟩
 obtain ⟨b,hb⟩ : ∃ b,b = w.heap.size:=⟨_,rfl⟩
 rw [contV,← hCA]
 rw [← hCA] at hW0
 rw [← hb] at ht hr7
 obtain ⟨r,hr⟩ : ∃ r,smallI x = r:=⟨_,rfl⟩
 rw [hr]
 unfold smallI bigC at hr
 obtain ⟨gr,hgr⟩ : ∃ g,greatB x.t = g:=⟨_,rfl⟩
 rw [hgr] at hG hr
 obtain ⟨tx,htx⟩ : ∃ t,x.v.text = t:=⟨_,rfl⟩
 rw [htx] at ht hr hts
 have HG:=Jh hG
 have HT:=Jh ht
 have HR7:=Jh hr7
 have HI:=Jh hinf
 have HW:=Jh hW0
 have HB:=Jh hb
 have HBL:=Jh hbel
 have HR:=Jh hr
 clear hG ht hr7 hinf hW0 hb hbel hr hk0 hrow hz0 hgr htx hN hCA hd hv hs hB hsz
 have ht:=HT.out
 by_cases hl : 300 < tx.size
 · have q1 : decide ((300 : Int) < (tx.size : Int)) = true:=decide_eq_true (by omega)
   go_enter Tryz.func12,Tryz.ntmps12
   go_upto_region 1 with (fail)
   rw [← HW.out,← HB.out]
   go_wp2
   go_ret
   exact ⟨by rw [← HR.out]; simp [hl],HBL.out⟩
 · have q1 : decide ((300 : Int) < (tx.size : Int)) = false:=decide_eq_false (by omega)
   cases gr
   all_goals
    go_enter Tryz.func12,Tryz.ntmps12
    go_upto_region 1 with (fail)
    rw [← HW.out,← HB.out]
    go_wp2_with (first | (refine wpList_mid rfl 41 _ rfl b 7 rfl N.toList _ HR7.out undN rfl HI.out ?_; simp only [Array.toArray_toList]) | (go_at_call 31; refine HG.out.mono ?_; rintro e w2 ⟨rfl,hbe⟩))
    go_ret
    exact ⟨by rw [← HR.out]; simp [hl],HBL.out.trans (hbe.mono HBL.out.size)⟩
end Go.Proofs.YtelombedjkbckaaGreatDoor
