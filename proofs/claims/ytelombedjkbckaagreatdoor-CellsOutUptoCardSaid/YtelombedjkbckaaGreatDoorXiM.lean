/- Law 18's example: awake. -/
import Derived.Test.YtelombedjkbckaaGreatDoorTw
import Derived.Test.YtelombedjkbckaaGreatDoorC7E0ZaZvC8C9Xd1D5
import Derived.Test.YtelombedjkbckaaGreatDoorD3D7E6Xc1
import Derived.Test.YtelombedjkbckaaGreatDoorXfOdXg
import Derived.Test.YtelombedjkbckaaGreatDoorXhXr
namespace Go.Proofs.YtelombedjkbckaaGreatDoor
set_option maxRecDepth 100000
set_option maxHeartbeats 4000000
open Go Go.RowKit Go.Shelf Go.Maps
def at12 : Ad:=⟨0,1,0,2⟩
theorem at12_ok : at12.ok:=by unfold Ad.ok i64; decide
def oneD : DataW Value:=DataW.put (.map []) at12.key (.held (contV (plainC fiveC) none 0))
theorem oneD_has : Maps.has oneD at12.key = true:=Maps.has_put_same isMap_empty (cell_law.key (key_eq at12 at12_ok)) _
theorem oneD_at : oneD.atKey at12.key (.held (contV zCt none 0)) = .held (contV fiveC none 0):=Maps.atKey_put_same isMap_empty (cell_law.key (key_eq at12 at12_ok)) _ _
theorem oneD_size : Maps.size oneD = 1:=by
 unfold oneD
 rw [Maps.size_put tidy_empty]
 rfl
def badC : Ct:=⟨3,zVl,zTr⟩
theorem zVl_ok : zVl.ok:=by unfold Vl.ok i64; decide
theorem awake18_c (w : World) (ht : Tab w) : Calls Tryz.prog 10 #[] w fun e w' => e = .returned (.bool true) ∧ Below w.heap.size w w':=by
 have hcode:=fun wx (hx : Below w.heap.size w wx) => five_code wx (tab_below ht hx)
 have hput : ∀ (p : Nat) (wx : World),StAt wx p none 0 (.map []) → Calls Tryz.prog 13 #[.pointer (some ⟨p,0,none⟩),.agg #[.int .i64 0,.int .i64 1,.int .i64 0,.int .i64 2],contV fiveC none 0] wx fun e w' => e = .returned (.int .i64 0) ∧ ∃ g,wx.heap.size ≤ g ∧ StAt w' p (some g) 1 oneD ∧ KeepP p none wx w' :=
  fun p wx h => put_none wx p 0 _ h at12 at12_ok (by decide) fiveC none 0 rfl five_right five_vok zNd_ok 0 (slAt_nil _ _) (Nat.zero_le _) (by decide)
 have hget : ∀ (p : Nat) (wx : World) (g : Nat),StAt wx p (some g) 1 oneD → Calls Tryz.prog 19 #[.pointer (some ⟨p,0,none⟩),.agg #[.int .i64 0,.int .i64 1,.int .i64 0,.int .i64 2]] wx fun e w' => e = .returned (contV fiveC none 0) ∧ Below wx.heap.size wx w' :=
  fun p wx g h => get_hit wx p (some g) 1 oneD h at12 at12_ok fiveC none 0 (by decide) oneD_has oneD_at
 have hsame : ∀ wx : World,Calls Tryz.prog 30 #[contV fiveC none 0,contV fiveC none 0] wx fun e w' => e = .returned (.bool true) ∧ Below wx.heap.size wx w':=fun wx => by
  have:=csame_c fiveC fiveC wx 0 none none 0 0 zNd_ok (slAt_nil _ _) zNd_ok (slAt_nil _ _) (Nat.zero_le _) (by decide)
  rwa [sameC_self] at this
 have hlen : ∀ (p : Nat) (wx : World) (g : Nat),StAt wx p (some g) 1 oneD → Calls Tryz.prog 16 #[.pointer (some ⟨p,0,none⟩)] wx fun e w' => e = .returned (.int .i64 1) ∧ Below wx.heap.size wx w':=fun p wx g h => by
  have:=len_c wx p (some g) 1 oneD h
  rwa [oneD_size] at this
 have hright : ∀ wx : World,Calls Tryz.prog 24 #[contV badC none 0] wx fun e w' => e = .returned (.bool false) ∧ Below wx.heap.size wx w':=fun wx => cright_c badC wx 0 none 0 zVl_ok zNd_ok (slAt_nil _ _) (Nat.zero_le _) (by decide)
 have HCODE:=Jh hcode
 clear hcode ht
 go_enter Tryz.func10,Tryz.ntmps10
 go_upto_region 2 with (first | (go_at_call 29; refine (five_c w).mono ?_; rintro e w1 ⟨rfl,hb1⟩) | (go_at_call 22; refine (HCODE.out _ hb1).mono ?_; rintro e w2 ⟨rfl,hb2'⟩; have hb2 : Below w.heap.size w w2:=hb1.trans (hb2'.mono hb1.size)))
 clear hb2' hb1
 obtain ⟨p,hp⟩ : ∃ p,p = w2.heap.size:=⟨_,rfl⟩
 obtain ⟨q,hq⟩ : ∃ q,q = p + 1:=⟨_,rfl⟩
 obtain ⟨W3,hW3⟩ : ∃ W3,W3 = w2.alloc (.cells #[.map none] 62):=⟨_,rfl⟩
 obtain ⟨W4,hW4⟩ : ∃ W4,W4 = W3.alloc (.cells #[.int .i64 0,.int .i64 1,.int .i64 0,.int .i64 2] 30):=⟨_,rfl⟩
 have hs3 : W3.heap.size = q:=by rw [hW3,World.size_alloc,hq,hp]
 have hp3 : W3.heap[p]? = some (.cells #[.map none] 62):=by rw [hW3,hp]; exact heap_alloc_new _ _
 have hp4 : W4.heap[p]? = some (.cells #[.map none] 62):=by rw [hW4]; exact (heapOld _ _ _ (by omega)).trans hp3
 have hq4 : W4.heap[q]? = some (.cells #[.int .i64 0,.int .i64 1,.int .i64 0,.int .i64 2] 30):=by rw [hW4,← hs3]; exact heap_alloc_new _ _
 have hst4 : StAt W4 p none 0 (.map []):=⟨hp4,rfl⟩
 have hb4 : Below w.heap.size w W4:=by rw [hW4,hW3]; exact (hb2.alloc hb2.size _).alloc (by rw [World.size_alloc]; have:=hb2.size; omega) _
 have hpw : w.heap.size ≤ p:=by have:=hb2.size; omega
 have hqp : q ≠ p:=by omega
 have HP:=Jh hp
 have HQ:=Jh hq
 have HW3:=Jh hW3
 have HW4:=Jh hW4
 have HS3:=Jh hs3
 have HQ4:=Jh (show W4.drew.heap[q]? = _ from hq4)
 have HST4:=Jh (show StAt W4.drew p none 0 (.map []) from hst4)
 have HB4:=Jh hb4
 have HPW:=Jh hpw
 have HQP:=Jh hqp
 have HPUT:=Jh (hput p)
 have HGET:=Jh (hget p)
 have HSAME:=Jh hsame
 have HLEN:=Jh (hlen p)
 have HRIGHT:=Jh hright
 clear hp hq hW3 hW4 hs3 hp3 hp4 hq4 hst4 hb4 hpw hqp hput hget hsame hlen hright hb2
 go_upto_region 4 with (first | (go_at_call 11; refine (new_c _).mono ?_; rintro e w3 ⟨rfl,rfl⟩; rw [← HP.out,← HW3.out]))
 rw [HS3.out,← HW4.out]
 refine wp_region_held_drew (S:=fun wx => wx.heap[q]? = some (.cells #[.int .i64 0,.int .i64 1,.int .i64 0,.int .i64 2] 30)) (by kernel_rfl) HQ4.out (fun hHeld => ?_)
 refine tkH (i:=0) (v:=(.int .i64 0)) rfl hHeld ?_
 (try simp only [Act.put,List.getElem_toArray,List.getElem_cons_zero,List.setIfInBounds_toArray,List.set_cons_zero,List.set_cons_succ])
 refine tkH (i:=1) (v:=(.bool true)) rfl hHeld ?_
 try simp only [sX]
 refine tkH (i:=2) (v:=(.bool true)) rfl hHeld ?_
 try simp only [sX]
 refine tkH (i:=3) (v:=(S fiveT)) rfl hHeld ?_
 try simp only [sX]
 refine tkH (i:=4) (v:=(.bool true)) rfl hHeld ?_
 try simp only [sX]
 refine tkH (i:=5) (v:=(.bool true)) rfl hHeld ?_
 try simp only [sX]
 refine tkH (i:=6) (v:=(.bool true)) rfl hHeld ?_
 try simp only [sX]
 refine tkH (i:=7) (v:=(.pointer (some ⟨p,0,none⟩))) rfl hHeld ?_
 try simp only [sX]
 refine tkH (i:=8) (v:=(.bool true)) rfl hHeld ?_
 try simp only [sX]
 refine tkH (i:=9) (v:=(.bool true)) rfl hHeld ?_
 try simp only [sX]
 refine tkH (i:=10) (v:=(.bool true)) rfl hHeld ?_
 try simp only [sX]
 refine tkH (i:=11) (v:=(.pointer (some ⟨p,0,none⟩))) rfl hHeld ?_
 try simp only [sX]
 refine tkG (i:=12) (v:=.agg #[.int .i64 0,.int .i64 1,.int .i64 0,.int .i64 2]) rfl (yieldsIf_load_mid (by kernel_rfl) 30 _ rfl q 0 rfl [.int .i64 0,.int .i64 1,.int .i64 0,.int .i64 2] _ (fun _ hS => ad_range hS) undCell rfl infCell) hHeld ?_
 try simp only [sX]
 refine wpAnyH_ready (rs:=[13]) (by kernel_rfl) (by simp) ?_
 refine AllReadyH.cons rfl (fun K hK => ?_) AllReadyH.nil
 rw [if_pos (by kernel_rfl)]
 go_simp
 refine (five_c _).mono ?_
 rintro e w5 ⟨rfl,hb5⟩
 try go_simp
 have hst5:=HST4.out.below hb5
 refine hK.out _ _ ((hb5.block q (Jg hHeld).1).trans hHeld) (fun hHeld => ?_)
 clear hK K
 try simp only [sX]
 refine wpAnyH_ready (rs:=[14]) (by kernel_rfl) (by simp) ?_
 refine AllReadyH.cons rfl (fun K hK => ?_) AllReadyH.nil
 rw [if_pos (by kernel_rfl)]
 go_simp
 refine (HPUT.out w5 hst5).mono ?_
 rintro e w6 ⟨rfl,g,hg,hst6,hkp⟩
 try go_simp
 refine hK.out _ _ ((hkp.block q (Jg hHeld).1 HQP.out (by simp)).trans hHeld) (fun hHeld => ?_)
 clear hK K
 try simp only [sX]
 refine tkH (i:=15) (v:=(.bool true)) rfl hHeld ?_
 try simp only [sX]
 refine tkH (i:=16) (v:=(.bool true)) rfl hHeld ?_
 try simp only [sX]
 refine tkH (i:=17) (v:=(.bool true)) rfl hHeld ?_
 try simp only [sX]
 refine tkH (i:=18) (v:=(.pointer (some ⟨p,0,none⟩))) rfl hHeld ?_
 try simp only [sX]
 refine tkG (i:=19) (v:=.agg #[.int .i64 0,.int .i64 1,.int .i64 0,.int .i64 2]) rfl (yieldsIf_load_mid (by kernel_rfl) 30 _ rfl q 0 rfl [.int .i64 0,.int .i64 1,.int .i64 0,.int .i64 2] _ (fun _ hS => ad_range hS) undCell rfl infCell) hHeld ?_
 try simp only [sX]
 refine wpAnyH_ready (rs:=[20]) (by kernel_rfl) (by simp) ?_
 refine AllReadyH.cons rfl (fun K hK => ?_) AllReadyH.nil
 rw [if_pos (by kernel_rfl)]
 go_simp
 refine (HGET.out w6 g hst6).mono ?_
 rintro e w7 ⟨rfl,hb7⟩
 try go_simp
 have hst7:=hst6.below hb7
 refine hK.out _ _ ((hb7.block q (Jg hHeld).1).trans hHeld) (fun hHeld => ?_)
 clear hK K
 try simp only [sX]
 refine wpAnyH_ready (rs:=[21]) (by kernel_rfl) (by simp) ?_
 refine AllReadyH.cons rfl (fun K hK => ?_) AllReadyH.nil
 rw [if_pos (by kernel_rfl)]
 go_simp
 refine (five_c w7).mono ?_
 rintro e w8 ⟨rfl,hb8⟩
 try go_simp
 have hst8:=hst7.below hb8
 refine hK.out _ _ ((hb8.block q (Jg hHeld).1).trans hHeld) (fun hHeld => ?_)
 clear hK K
 try simp only [sX]
 refine wpAnyH_ready (rs:=[22]) (by kernel_rfl) (by simp) ?_
 refine AllReadyH.cons rfl (fun K hK => ?_) AllReadyH.nil
 rw [if_pos (by kernel_rfl)]
 go_simp
 refine (HSAME.out w8).mono ?_
 rintro e w9 ⟨rfl,hb9⟩
 try go_simp
 have hst9:=hst8.below hb9
 refine hK.out _ _ ((hb9.block q (Jg hHeld).1).trans hHeld) (fun hHeld => ?_)
 clear hK K
 try simp only [sX]
 refine tkH (i:=23) (v:=(.bool true)) rfl hHeld ?_
 try simp only [sX]
 refine tkH (i:=24) (v:=(.bool true)) rfl hHeld ?_
 try simp only [sX]
 refine tkH (i:=25) (v:=(.pointer (some ⟨p,0,none⟩))) rfl hHeld ?_
 try simp only [sX]
 refine wpAnyH_ready (rs:=[26]) (by kernel_rfl) (by simp) ?_
 refine AllReadyH.cons rfl (fun K hK => ?_) AllReadyH.nil
 rw [if_pos (by kernel_rfl)]
 go_simp
 refine (HLEN.out w9 g hst9).mono ?_
 rintro e w10 ⟨rfl,hb10⟩
 try go_simp
 refine hK.out _ _ ((hb10.block q (Jg hHeld).1).trans hHeld) (fun hHeld => ?_)
 clear hK K
 try simp only [sX]
 refine tkH (i:=27) (v:=(.bool true)) rfl hHeld ?_
 try simp only [sX]
 refine tkH (i:=28) (v:=(.bool true)) rfl hHeld ?_
 try simp only [sX]
 refine tkH (i:=29) (v:=(.bool true)) rfl hHeld ?_
 try simp only [sX]
 refine tkH (i:=30) (v:=(contV ⟨3,zVl,zTr⟩ none 0)) rfl hHeld ?_
 try simp only [sX]
 refine wpAnyH_ready (rs:=[31]) (by kernel_rfl) (by simp) ?_
 refine AllReadyH.cons rfl (fun K hK => ?_) AllReadyH.nil
 rw [if_pos (by kernel_rfl)]
 go_simp
 refine (HRIGHT.out w10).mono ?_
 rintro e w11 ⟨rfl,hb11⟩
 try go_simp
 refine hK.out _ _ ((hb11.block q (Jg hHeld).1).trans hHeld) (fun hHeld => ?_)
 clear hK K
 try simp only [sX]
 refine tkH (i:=32) (v:=(.bool true)) rfl hHeld ?_
 try simp only [sX]
 refine tkH (i:=33) (v:=(.bool true)) rfl hHeld ?_
 try simp only [sX]
 refine tkH (i:=34) (v:=(.bool true)) rfl hHeld ?_
 (try simp only [Act.put,List.getElem_toArray,List.getElem_cons_succ,List.getElem_cons_zero,List.setIfInBounds_toArray,List.set_cons_zero])
 refine wpAnyH_done (by kernel_rfl) ?_ _
 go_wp2
 go_ret
 refine ⟨rfl,?_⟩
 have b5 : Below w.heap.size w w5:=HB4.out.trans (Below.mono (show Below W4.heap.size W4 w5 from (Below.refl _ _).drew.trans hb5) HB4.out.size)
 have b6 : Below w.heap.size w w6:=b5.trans (hkp.below HPW.out (by simp) b5.size)
 have b7:=b6.trans (hb7.mono b6.size)
 have b8:=b7.trans (hb8.mono b7.size)
 have b9:=b8.trans (hb9.mono b8.size)
 have b10:=b9.trans (hb10.mono b9.size)
 exact b10.trans (hb11.mono b10.size)
end Go.Proofs.YtelombedjkbckaaGreatDoor
