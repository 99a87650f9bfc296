/- The text of a content: cells.Code. -/
import Derived.Test.YtelombedjkbckaaGreatDoorXhXr
import Derived.Test.YtelombedjkbckaaGreatDoorCzM
namespace Go.Proofs.YtelombedjkbckaaGreatDoor
set_option maxRecDepth 100000
set_option maxHeartbeats 2000000
open Go Go.RowKit Go.Shelf
def codeC (x : Ct) : List UInt8:=if x.k = 0 then [46] else if x.k = 2 then 61 :: codeL x.t else 86 :: (valL x.v ++ [59])
theorem codeL_le {t : Tr} (hd : t.d.ok) {w : World} {B : Nat} {A : Option Addr} {c : Nat} (hs : SlAt w B A c t.l) (hsh : Short t) (hz : t.size ≤ 1048576) : (codeL t).length ≤ 4398046511104:=by
 have hok:=SlAt.all_ok hd hs
 have:=code_le hok hsh
 have hn:=nodes_len t
 omega
theorem code18_bad (x : Ct) (w : World) (B : Nat) (A : Option Addr) (c : Nat) (hv : x.v.ok) (hd : x.t.d.ok) (hs : SlAt w B A c x.t.l) (hB : B ≤ w.heap.size) (hsz : x.t.size ≤ 1099511627776) (hr : rightC x = false) :
 Calls Tryz.prog 22 #[contV x A c] w fun e w' => e = .returned (.tuple #[S [],.int .i64 6]) ∧ Below w.heap.size w w':=by
 have hb0 : Below w.heap.size w (w.alloc (.cells (contA x A c) 43)):=(Below.refl _ w).alloc (Nat.le_refl _) _
 have hR:=cright_c x (w.alloc (.cells (contA x A c) 43)) B A c hv hd (hs.below (hb0.mono hB)) (by rw [World.size_alloc]; omega) hsz
 rw [hr] at hR
 have hic:=infC
 obtain ⟨CA,hCA⟩ : ∃ C,C = contA x A c:=⟨_,rfl⟩
 rw [show (29 : Nat) = CA.size by rw [hCA]; rfl] at hic
 rw [contV,← hCA] at hR
 rw [contV,← hCA]
 rw [← hCA] at hb0
 have HR:=Jh hR
 have HI:=Jh hic
 have HB:=Jh hb0
 clear hR hic hb0 hCA hv hd hs hB hsz hr
 go_enter Tryz.func22,Tryz.ntmps22
 go_wp2_with (first | (refine wpList_row rfl 43 _ rfl w.heap.size rfl 43 CA (0,0) _ (World.alloc_heap_new w _) undC rfl HI.out ?_) | (go_at_call 24; refine HR.out.mono ?_; rintro e w2 ⟨rfl,hbe⟩))
 go_ret2
 exact ⟨rfl,HB.out.trans (hbe.mono HB.out.size)⟩
theorem code18_none (x : Ct) (w : World) (B : Nat) (A : Option Addr) (c : Nat) (hk : x.k = 0) (hv : x.v.ok) (hd : x.t.d.ok) (hs : SlAt w B A c x.t.l) (hB : B ≤ w.heap.size) (hsz : x.t.size ≤ 1099511627776) (hr : rightC x = true) :
 Calls Tryz.prog 22 #[contV x A c] w fun e w' => e = .returned (.tuple #[S [46],.int .i64 0]) ∧ Below w.heap.size w w':=by
 obtain ⟨W0,hW0⟩ : ∃ W0,W0 = w.alloc (.cells (contA x A c) 43):=⟨_,rfl⟩
 have hb0 : Below w.heap.size w W0:=by rw [hW0]; exact (Below.refl _ w).alloc (Nat.le_refl _) _
 have hz0 : W0.heap.size = w.heap.size + 1:=by rw [hW0]; simp
 have hk0 : W0.heap[w.heap.size]? = some (.cells (contA x A c) 43):=by rw [hW0]; exact heap_alloc_new _ _
 have hR:=cright_c x W0 B A c hv hd (hs.below (hb0.mono hB)) (by omega) hsz
 rw [hr] at hR
 have hkk : ∀ wx,Below W0.heap.size W0 wx → wx.cell? ⟨w.heap.size,0,none⟩ = some (.int .i64 0):=fun wx hx => by rw [← hk]; exact (cont_row ((hx.block w.heap.size (by omega)).trans hk0)).1
 have hic:=infC
 obtain ⟨CA,hCA⟩ : ∃ C,C = contA x A c:=⟨_,rfl⟩
 rw [show (29 : Nat) = CA.size by rw [hCA]; rfl] at hic
 rw [contV,← hCA] at hR
 rw [contV,← hCA]
 rw [← hCA] at hW0 hk0
 obtain ⟨b,hb⟩ : ∃ b,b = w.heap.size:=⟨_,rfl⟩
 rw [← hb] at hkk hk0
 have HR:=Jh hR
 have HI:=Jh hic
 have HB0:=Jh hb0
 have HW:=Jh hW0
 have HB:=Jh hb
 have HKK:=Jh hkk
 have HK0:=Jh hk0
 clear hR hic hb0 hCA hv hd hs hB hsz hr hW0 hb hkk hk0 hz0 hk
 go_enter Tryz.func22,Tryz.ntmps22
 go_upto_region 1 with (fail)
 rw [← HW.out,← HB.out]
 go_wp2_with (first | (refine wpList_row rfl 43 _ rfl b rfl 43 CA (0,0) _ HK0.out undC rfl HI.out ?_) | (go_at_call 24; refine HR.out.mono ?_; rintro e w2 ⟨rfl,hbe⟩; have hkc:=HKK.out _ hbe))
 go_ret2
 exact ⟨rfl,HB0.out.trans (hbe.mono HB0.out.size)⟩
theorem code18_tree (x : Ct) (w : World) (B : Nat) (A : Option Addr) (c : Nat) (hk : x.k = 2) (hv : x.v.ok) (hd : x.t.d.ok) (hs : SlAt w B A c x.t.l) (hB : B ≤ w.heap.size) (hsz : x.t.size ≤ 1048576) (hr : rightC x = true) (hsh : Short x.t) (ht : Tab w) :
 Calls Tryz.prog 22 #[contV x A c] w fun e w' => e = .returned (.tuple #[S (61 :: codeL x.t),.int .i64 0]) ∧ Below w.heap.size w w':=by
 have hck : checkI x.t = 0:=by
  have:=hr
  unfold rightC at this
  rw [if_neg (by omega),if_neg (by omega),if_pos hk] at this
  simp only [Bool.and_eq_true,decide_eq_true_eq] at this
  exact this.2
 obtain ⟨W0,hW0⟩ : ∃ W0,W0 = w.alloc (.cells (contA x A c) 43):=⟨_,rfl⟩
 have hb0 : Below w.heap.size w W0:=by rw [hW0]; exact (Below.refl _ w).alloc (Nat.le_refl _) _
 have hz0 : W0.heap.size = w.heap.size + 1:=by rw [hW0]; simp
 have hk0 : W0.heap[w.heap.size]? = some (.cells (contA x A c) 43):=by rw [hW0]; exact heap_alloc_new _ _
 have hsl : ∀ wx,Below W0.heap.size W0 wx → SlAt wx B A c x.t.l:=fun wx hx => (hs.below (hb0.mono hB)).below (hx.mono (by omega))
 have hR:=cright_c x W0 B A c hv hd (hsl _ (Below.refl _ _)) (by omega) (by omega)
 rw [hr] at hR
 have hM:=fun wx (hx : Below W0.heap.size W0 wx) => code_good wx B (by have:=hx.size; omega) x.t A c hd (hsl wx hx) (by omega) hck hsh (tab_below ht (hb0.trans (hx.mono hb0.size)))
 have lT:=codeL_le hd hs hsh hsz
 have hrow:=fun wx (hx : Below W0.heap.size W0 wx) => cont_row ((hx.block w.heap.size (by omega)).trans hk0)
 have hkk : ∀ wx,Below W0.heap.size W0 wx → wx.cell? ⟨w.heap.size,0,none⟩ = some (.int .i64 2):=fun wx hx => by rw [← hk]; exact (hrow wx hx).1
 have hr7:=fun wx hx => (hrow wx hx).2.2
 have hic:=infC
 have hinf:=infNl x.t.d A x.t.l.length c
 obtain ⟨CA,hCA⟩ : ∃ C,C = contA x A c:=⟨_,rfl⟩
 rw [show (29 : Nat) = CA.size by rw [hCA]; rfl] at hic
 rw [contV,← hCA] at hR
 rw [contV,← hCA]
 rw [← hCA] at hW0 hk0
 obtain ⟨b,hb⟩ : ∃ b,b = w.heap.size:=⟨_,rfl⟩
 rw [← hb] at hkk hk0 hr7
 obtain ⟨N,hN⟩ : ∃ N,N = nodeA x.t.d A x.t.l.length c:=⟨_,rfl⟩
 simp only [nodeV,← hN] at hM
 rw [← hN] at hr7 hinf
 generalize codeL x.t = ct at *
 have HR:=Jh hR
 have HI:=Jh hic
 have HN:=Jh hinf
 have HB0:=Jh hb0
 have HW:=Jh hW0
 have HB:=Jh hb
 have HKK:=Jh hkk
 have HK0:=Jh hk0
 have HM:=Jh hM
 have HR7:=Jh hr7
 clear hR hic hinf hb0 hCA hN hv hd hs hB hsz hr hW0 hb hkk hk0 hz0 hk hM hr7 hrow hsl hck hsh ht
 have n1 : ¬ 9223372036854775807 < 1 + ct.length:=by omega
 go_enter Tryz.func22,Tryz.ntmps22
 go_upto_region 1 with (fail)
 rw [← HW.out,← HB.out]
 go_wp2_with (first | (refine wpList_row rfl 43 _ rfl b rfl 43 CA (0,0) _ HK0.out undC rfl HI.out ?_) | (go_at_call 24; refine HR.out.mono ?_; rintro e w2 ⟨rfl,hbe⟩; have hkc:=HKK.out _ hbe) | (refine wpList_mid rfl 41 _ rfl b 7 rfl N.toList _ (HR7.out _ hbe) undN rfl HN.out ?_; simp only [Array.toArray_toList]) | (go_at_call 40; refine (HM.out _ hbe).mono ?_; rintro e w3 ⟨rfl,hb3⟩))
 go_ret2
 exact ⟨congrArg (fun z => Ending.returned (.tuple #[.string z,.int .i64 0])) (ByteArray.ext (by simp [ByteArray.data_append])),HB0.out.trans ((hbe.trans (hb3.mono hbe.size)).mono HB0.out.size)⟩
theorem code18_c (x : Ct) (w : World) (B : Nat) (A : Option Addr) (c : Nat) (hv : x.v.ok) (hd : x.t.d.ok) (hs : SlAt w B A c x.t.l) (hB : B ≤ w.heap.size) (hsz : x.t.size ≤ 1048576) (hsh : Short x.t) (hvs : x.v.text.size ≤ 2000000) (ht : Tab w) :
 Calls Tryz.prog 22 #[contV x A c] w fun e w' => e = .returned (.tuple #[S (if rightC x = true then codeC x else []),.int .i64 (if rightC x = true then 0 else 6)]) ∧ Below w.heap.size w w':=by
 cases hr : rightC x with
 | false => exact code18_bad x w B A c hv hd hs hB (by omega) hr
 | true =>
  unfold codeC
  simp only [if_true]
  by_cases k0 : x.k = 0
  · rw [if_pos k0]; exact code18_none x w B A c k0 hv hd hs hB (by omega) hr
  rw [if_neg k0]
  by_cases k2 : x.k = 2
  · rw [if_pos k2]; exact code18_tree x w B A c k2 hv hd hs hB hsz hr hsh ht
  rw [if_neg k2]
  have k1 : x.k = 1:=by
   by_cases k1 : x.k = 1
   · exact k1
   · unfold rightC at hr
     rw [if_neg k0,if_neg k1,if_neg k2] at hr
     cases hr
  obtain ⟨h1,h2⟩:=right_val k1 hr
  have:=code_val x w B A c k1 hr hv hd hs hB (by omega) (mt_check h1 h2) (mt_short hvs) ht (by rw [mt_text]; have:=val_le x.v hv hvs; simp; omega)
  rwa [textV_eq] at this
end Go.Proofs.YtelombedjkbckaaGreatDoor
