/- tree.right: its loop. -/
import Derived.Test.YtelombedjkbckaaGreatDoorTw
import Derived.Test.YtelombedjkbckaaGreatDoorRrRz
namespace Go.Proofs.YtelombedjkbckaaGreatDoor
set_option maxRecDepth 100000
set_option maxHeartbeats 4000000
open Go.RowKit Go.Shelf
theorem right_loop (d : ND) (l : List Tr) (ih : ∀ t ∈ l, ∀ (w : World) (B b o : Nat) (above : Int) (_ : NodeAt w B b o t) (_ : B ≤ w.heap.size), Calls Tryz.prog 78 #[.pointer (some ⟨b, o, none⟩), .int .i64 above] w fun e w' => e = .returned (.bool (rightB t above)) ∧ Below w.heap.size w w')
 (hfirst : ∀ (w : World) (B b o : Nat) (above kind : Int) (v : Vl) (name : ByteArray) (a q : Cn) (rows : Int) (A : Option Addr) (c n : Nat) (qo : Bool) (_ : B ≤ w.heap.size) (_ : b < w.heap.size)
 (_ : Hid (NodeCells w b o ⟨kind,v,name,a,q,rows⟩ A n c)) (_ : Hid (ND.ok ⟨kind,v,name,a,q,rows⟩)) (_ : Hid (SlAt w B A c l)) (_ : Hid (n = l.length)) (_ : Hid (ownB ⟨kind,v,name,a,q,rows⟩ n (kind0 l) above = qo)) (J K' : Act → World → Prop) (fn : Func) (R : Ending → World → Prop) (_ : ∀ a' w',Own5 b o above kind qo w a' w' → J a' w') (_ : ∀ a' w',Met J a' w' → K' a' w'),Code.wp Tryz.prog rightBlk (Exit.then K' (bodyPost Tryz.prog fn R)) (rF b o above kind) w)
 (w : World) (B b o : Nat) (above : Int) (h : NodeAt w B b o (.mk d l)) (hB : B ≤ w.heap.size) :
 Calls Tryz.prog 78 #[.pointer (some ⟨b,o,none⟩),.int .i64 above] w fun e w' => e = .returned (.bool (rightB (.mk d l) above)) ∧ Below w.heap.size w w':=by
 have IH:=Jh ih
 have HF:=Jh hfirst
 clear ih hfirst
 obtain ⟨hb,hd,A,c,hc,hs⟩:=h.open_
 have hbw : b < w.heap.size:=by omega
 have HC:=Jh hc
 have HD:=Jh hd
 have HS:=Jh hs
 obtain ⟨n,hn⟩ : ∃ n,n = l.length:=⟨_,rfl⟩
 obtain ⟨kind,v,name,a,q,rows⟩:=d
 dsimp only [Tr.d,Tr.l] at HC HD HS hc hd hs
 rw [← hn] at HC hc
 have HN:=Jh hn
 obtain ⟨h0,h1,h2,h3,h4,h5,h6,h7,h8,h9,h10,h11,h12,h13,h14,h15,h16,h17,h18,h19,h20,h21⟩:=hc.all
 dsimp only at h0 h1 h2 h3 h4 h5 h6 h7 h8 h9 h10 h11 h12 h13 h14 h15 h16 h17 h18 h19 h20 h21
 clear h hc hd hs hb
 obtain ⟨qo,hqo⟩ : ∃ qo,ownB ⟨kind,v,name,a,q,rows⟩ n (kind0 l) above = qo:=⟨_,rfl⟩
 have HQ:=Jh hqo
 have HQ2 : Hid (ownB ⟨kind,v,name,a,q,rows⟩ l.length (kind0 l) above = qo):=by rw [← hn]; exact hqo
 clear hqo hn
 go_enter Tryz.func78,Tryz.ntmps78
 go_upto_block 0 with (fail)
 go_cut [5] (fun u wx => u = .bool qo ∧ Below w.heap.size w wx)
 case first =>
  rename_i hJ hK
  exact HF.out w B b o above kind v name a q rows A c n qo hB hbw HC HD HS HN HQ _ _ _ _ hJ hK
 case rest =>
  clear HF
  obtain ⟨rfl,hbe⟩:=hcut
  clear HQ
  rename_i wc
  obtain ⟨bc,-⟩:=bcell hbe
  have hsl:=HS.out.1
  have hsc:=HS.out.2.1
  rw [← HN.out] at hsl
  have HBE:=Jh hbe
  go_wp2
  clear bc hbe
  go_loopw [4,5,6,251] (fun _ v5 _ i wr => ∃ k : Nat,k ≤ n ∧ i = .int .i64 k ∧ v5 = .bool (accB qo kind l k) ∧ Below w.heap.size w wr) (fun _ _ _ i _ => n - (intOf i).toNat)
  case atStart => exact ⟨0,Nat.zero_le _,rfl,by simp [accB,rightsB],HBE.out⟩
  case round =>
   obtain ⟨k,hk,rfl,rfl,hbr⟩:=hrel
   obtain ⟨bc,-⟩:=bcell hbr
   have hB2:=Jh hbr
   by_cases hlt : k < n
   · cases hacc : accB qo kind l k
     · have HA:=Jh hacc
       clear hacc
       go_wp2
       go_ret
       exact ⟨ret_bool (by rw [right_of (qo:=qo) HQ2.out]; exact (acc_false HN.out HA.out).symm),hbr⟩
     · have hkl : k < l.length:=by rw [← HN.out]; exact hlt
       obtain ⟨b2,o2,hA,hkn⟩:=HS.out.at_ k hkl
       subst hA
       obtain ⟨hkb,-,A2,c2,hkc,-⟩:=hkn.open_
       have hk0:=hkc.all.1
       have hbk : b2 < w.heap.size:=by omega
       have hkid : ∀ wx,Below w.heap.size w wx → Calls Tryz.prog 78 #[.pointer (some ⟨b2,o2 + k * 22,none⟩),.int .i64 kind] wx fun e w' => e = .returned (.bool (rightB l[k] kind)) ∧ Below wx.heap.size wx w' :=
        fun wx hwx => IH.out l[k] (List.getElem_mem hkl) wx B b2 (o2 + k * 22) kind (hkn.below (hwx.mono hB)) (by have:=hwx.size; omega)
       have HK:=Jh hkid
       obtain ⟨kk,hkk⟩ : ∃ kk,l[k].d.kind = kk:=⟨_,rfl⟩
       rw [hkk] at hk0
       have HKK:=Jh hkk
       have HAC:=Jh hacc
       obtain ⟨rk,hrk⟩ : ∃ rk,rightB l[k] kind = rk:=⟨_,rfl⟩
       rw [hrk] at HK
       have HRK:=Jh hrk
       have hkc1 : (k : Int) < (n : Int):=by omega
       have hkc0 : (0 : Int) ≤ (k : Int):=by omega
       clear hkn hkb hkc hkid hkk hacc hrk
       by_cases k8 : kind = 8
       · subst k8
         by_cases kz : kk = 0
         · subst kz
           go_wp2
           refine wp_region_any (by kernel_rfl) ?_
           try (change wpAny _ _ _ _ _ _ _ (World.drew _))
           refine tkA (i:=0) rfl ?_
           (try simp only [List.getElem_toArray,List.getElem_cons_zero,Act.put,List.setIfInBounds_toArray,List.set_cons_zero,List.set_cons_succ])
           refine tkA (i:=1) rfl ?_
           try simp only [sX]
           refine tkA (i:=2) rfl ?_
           try simp only [sX]
           refine wpAny_ready (rs:=[3]) (by kernel_rfl) (by simp) ?_
           refine AllReady.cons rfl (fun K hK => ?_) AllReady.nil
           go_simp
           refine hK _ _ ?_
           clear hK K
           refine tkA (i:=4) (v:=.bool false) rfl ?_
           try simp only [sX]
           refine tkA (i:=5) (v:=.bool false) rfl ?_
           try simp only [sX]
           refine tkA (i:=6) rfl ?_
           try simp only [sX]
           refine tkA (i:=7) rfl ?_
           try simp only [sX]
           refine tkA (i:=8) rfl ?_
           try simp only [sX]
           refine tkA (i:=10) rfl ?_
           try simp only [sX]
           refine wpAny_ready (rs:=[9]) (by kernel_rfl) (by simp) ?_
           refine AllReady.cons rfl (fun K hK => ?_) AllReady.nil
           go_simp
           refine hK _ _ ?_
           clear hK K
           refine tkA (i:=11) rfl ?_
           try simp only [sX]
           refine tkA (i:=12) rfl ?_
           try simp only [sX]
           refine wpAny_ready (rs:=[13]) (by kernel_rfl) (by simp) ?_
           refine AllReady.cons rfl (fun K hK => ?_) AllReady.nil
           go_simp
           refine hK _ _ ?_
           clear hK K
           refine tkA (i:=14) (v:=.bool true) rfl ?_
           try simp only [sX]
           refine tkA (i:=15) (v:=.bool true) rfl ?_
           try simp only [sX]
           refine tkA (i:=16) (v:=.bool true) rfl ?_
           try simp only [sX]
           refine tkA (i:=17) rfl ?_
           try simp only [sX]
           refine tkA (i:=18) rfl ?_
           try simp only [sX]
           refine tkA (i:=19) rfl ?_
           try simp only [sX]
           refine tkA (i:=21) rfl ?_
           try simp only [sX]
           refine tkA (i:=23) rfl ?_
           try simp only [sX]
           refine tkA (i:=24) rfl ?_
           try simp only [sX]
           refine tkA (i:=25) rfl ?_
           try simp only [sX]
           refine wpAny_ready (rs:=[20,26]) (by kernel_rfl) (by simp) ?_
           refine AllReady.cons rfl (fun K hK => ?_) ?_
           · skip
             go_simp
             refine hK _ _ ?_
             clear hK K
             refine tkA (i:=22) rfl ?_
             try simp only [sX]
             refine wpAny_ready (rs:=[26]) (by kernel_rfl) (by simp) ?_
             refine AllReady.cons rfl (fun K hK => ?_) AllReady.nil
             go_simp
             refine hK _ _ ?_
             clear hK K
             refine wpAny_ready (rs:=[27]) (by kernel_rfl) (by simp) ?_
             refine AllReady.cons rfl (fun K hK => ?_) AllReady.nil
             go_simp
             go_wp2_with (go_at_call 78; refine (HK.out _ (hbr.drew)).mono ?_; rintro e w2 ⟨rfl,hbe⟩)
             refine tkA (i:=28) rfl ?_
             try simp only [sX]
             refine tkA (i:=29) rfl ?_
             try simp only [sX]
             refine wpAny_done (by kernel_rfl) ?_ _
             go_wp2
             go_roundw
             case rel => exact ⟨k + 1,by omega,by go_num,by rw [acc_step hkl HAC.out,HRK.out,HKK.out]; simp,(hbr.drew).trans (hbe.mono (hbr.drew).size)⟩
             case measure => simp [intOf]; omega
           refine AllReady.cons rfl (fun K hK => ?_) AllReady.nil
           go_simp
           refine hK _ _ ?_
           clear hK K
           refine wpAny_ready (rs:=[20]) (by kernel_rfl) (by simp) ?_
           refine AllReady.cons rfl (fun K hK => ?_) AllReady.nil
           go_simp
           refine hK _ _ ?_
           clear hK K
           refine tkA (i:=22) rfl ?_
           try simp only [sX]
           refine wpAny_ready (rs:=[27]) (by kernel_rfl) (by simp) ?_
           refine AllReady.cons rfl (fun K hK => ?_) AllReady.nil
           go_simp
           go_wp2_with (go_at_call 78; refine (HK.out _ (hbr.drew)).mono ?_; rintro e w2 ⟨rfl,hbe⟩)
           refine tkA (i:=28) rfl ?_
           try simp only [sX]
           refine tkA (i:=29) rfl ?_
           try simp only [sX]
           refine wpAny_done (by kernel_rfl) ?_ _
           go_wp2
           go_roundw
           case rel => exact ⟨k + 1,by omega,by go_num,by rw [acc_step hkl HAC.out,HRK.out,HKK.out]; simp,(hbr.drew).trans (hbe.mono (hbr.drew).size)⟩
           case measure => simp [intOf]; omega
         · have q1 : (kk == 0) = false:=by simp [kz]
           have q2 : decide (kk = 0) = false:=by simp [kz]
           go_wp2
           refine wp_region_any (by kernel_rfl) ?_
           try (change wpAny _ _ _ _ _ _ _ (World.drew _))
           refine tkA (i:=0) rfl ?_
           (try simp only [List.getElem_toArray,List.getElem_cons_zero,Act.put,List.setIfInBounds_toArray,List.set_cons_zero,List.set_cons_succ])
           refine tkA (i:=1) rfl ?_
           try simp only [sX]
           refine tkA (i:=2) rfl ?_
           try simp only [sX]
           refine wpAny_ready (rs:=[3]) (by kernel_rfl) (by simp) ?_
           refine AllReady.cons rfl (fun K hK => ?_) AllReady.nil
           go_simp
           refine hK _ _ ?_
           clear hK K
           refine tkA (i:=4) (v:=.bool false) rfl ?_
           try simp only [sX]
           refine tkA (i:=5) (v:=.bool false) rfl ?_
           try simp only [sX]
           refine tkA (i:=6) rfl ?_
           try simp only [sX]
           refine tkA (i:=7) rfl ?_
           try simp only [sX]
           refine tkA (i:=8) rfl ?_
           try simp only [sX]
           refine tkA (i:=10) rfl ?_
           try simp only [sX]
           refine wpAny_ready (rs:=[9]) (by kernel_rfl) (by simp) ?_
           refine AllReady.cons rfl (fun K hK => ?_) AllReady.nil
           go_simp
           refine hK _ _ ?_
           clear hK K
           refine tkA (i:=11) rfl ?_
           try simp only [sX]
           refine tkA (i:=12) rfl ?_
           try simp only [sX]
           refine wpAny_ready (rs:=[13]) (by kernel_rfl) (by simp) ?_
           refine AllReady.cons rfl (fun K hK => ?_) AllReady.nil
           go_simp
           refine hK _ _ ?_
           clear hK K
           refine tkA (i:=14) (v:=.bool false) rfl ?_
           try simp only [sX]
           refine tkA (i:=15) (v:=.bool false) rfl ?_
           try simp only [sX]
           refine tkA (i:=16) (v:=.bool false) rfl ?_
           try simp only [sX]
           refine tkB (i:=17) rfl ?_
           try simp only [sX]
           refine tkB (i:=18) rfl ?_
           try simp only [sX]
           refine tkB (i:=19) rfl ?_
           try simp only [sX]
           refine tkB (i:=20) rfl ?_
           try simp only [sX]
           refine tkB (i:=21) rfl ?_
           try simp only [sX]
           refine tkB (i:=22) rfl ?_
           try simp only [sX]
           refine tkB (i:=23) rfl ?_
           try simp only [sX]
           refine tkB (i:=24) rfl ?_
           try simp only [sX]
           refine tkB (i:=25) rfl ?_
           try simp only [sX]
           refine tkB (i:=26) rfl ?_
           try simp only [sX]
           refine tkB (i:=27) rfl ?_
           try simp only [sX]
           refine tkA (i:=28) (v:=.bool false) rfl ?_
           try simp only [sX]
           refine tkA (i:=29) (v:=.bool false) rfl ?_
           try simp only [sX]
           refine wpAny_done (by kernel_rfl) ?_ _
           go_wp2
           go_roundw
           case rel => exact ⟨k + 1,by omega,by go_num,by rw [acc_step hkl HAC.out,HKK.out,q2]; simp,hbr.drew⟩
           case measure => simp [intOf]; omega
       · have q1 : (kind != 8) = true:=by simp [k8]
         have q2 : decide (kind ≠ 8) = true:=by simp [k8]
         have K8:=Jh k8
         clear k8
         go_wp2
         refine wp_region_any (by kernel_rfl) ?_
         try (change wpAny _ _ _ _ _ _ _ (World.drew _))
         refine tkA (i:=0) rfl ?_
         (try simp only [List.getElem_toArray,List.getElem_cons_zero,Act.put,List.setIfInBounds_toArray,List.set_cons_zero,List.set_cons_succ])
         refine tkA (i:=1) rfl ?_
         try simp only [sX]
         refine tkA (i:=2) rfl ?_
         try simp only [sX]
         refine wpAny_ready (rs:=[3]) (by kernel_rfl) (by simp) ?_
         refine AllReady.cons rfl (fun K hK => ?_) AllReady.nil
         go_simp
         refine hK _ _ ?_
         clear hK K
         refine tkA (i:=4) (v:=.bool true) rfl ?_
         try simp only [sX]
         refine tkA (i:=5) (v:=.bool true) rfl ?_
         try simp only [sX]
         refine tkB (i:=6) rfl ?_
         try simp only [sX]
         refine tkB (i:=7) rfl ?_
         try simp only [sX]
         refine tkB (i:=8) rfl ?_
         try simp only [sX]
         refine tkB (i:=9) rfl ?_
         try simp only [sX]
         refine tkB (i:=10) rfl ?_
         try simp only [sX]
         refine tkB (i:=11) rfl ?_
         try simp only [sX]
         refine tkB (i:=12) rfl ?_
         try simp only [sX]
         refine tkB (i:=13) rfl ?_
         try simp only [sX]
         refine tkB (i:=14) rfl ?_
         try simp only [sX]
         refine tkA (i:=15) (v:=.bool true) rfl ?_
         try simp only [sX]
         refine tkA (i:=16) (v:=.bool true) rfl ?_
         try simp only [sX]
         refine tkA (i:=17) rfl ?_
         try simp only [sX]
         refine tkA (i:=18) rfl ?_
         try simp only [sX]
         refine tkA (i:=19) rfl ?_
         try simp only [sX]
         refine tkA (i:=21) rfl ?_
         try simp only [sX]
         refine tkA (i:=23) rfl ?_
         try simp only [sX]
         refine tkA (i:=24) rfl ?_
         try simp only [sX]
         refine tkA (i:=25) rfl ?_
         try simp only [sX]
         refine wpAny_ready (rs:=[20,26]) (by kernel_rfl) (by simp) ?_
         refine AllReady.cons rfl (fun K hK => ?_) ?_
         · skip
           go_simp
           refine hK _ _ ?_
           clear hK K
           refine tkA (i:=22) rfl ?_
           try simp only [sX]
           refine wpAny_ready (rs:=[26]) (by kernel_rfl) (by simp) ?_
           refine AllReady.cons rfl (fun K hK => ?_) AllReady.nil
           go_simp
           refine hK _ _ ?_
           clear hK K
           refine wpAny_ready (rs:=[27]) (by kernel_rfl) (by simp) ?_
           refine AllReady.cons rfl (fun K hK => ?_) AllReady.nil
           go_simp
           go_wp2_with (go_at_call 78; refine (HK.out _ (hbr.drew)).mono ?_; rintro e w2 ⟨rfl,hbe⟩)
           refine tkA (i:=28) rfl ?_
           try simp only [sX]
           refine tkA (i:=29) rfl ?_
           try simp only [sX]
           refine wpAny_done (by kernel_rfl) ?_ _
           go_wp2
           go_roundw
           case rel => exact ⟨k + 1,by omega,by go_num,by rw [acc_step hkl HAC.out,HRK.out,q2]; simp,(hbr.drew).trans (hbe.mono (hbr.drew).size)⟩
           case measure => simp [intOf]; omega
         refine AllReady.cons rfl (fun K hK => ?_) AllReady.nil
         go_simp
         refine hK _ _ ?_
         clear hK K
         refine wpAny_ready (rs:=[20]) (by kernel_rfl) (by simp) ?_
         refine AllReady.cons rfl (fun K hK => ?_) AllReady.nil
         go_simp
         refine hK _ _ ?_
         clear hK K
         refine tkA (i:=22) rfl ?_
         try simp only [sX]
         refine wpAny_ready (rs:=[27]) (by kernel_rfl) (by simp) ?_
         refine AllReady.cons rfl (fun K hK => ?_) AllReady.nil
         go_simp
         go_wp2_with (go_at_call 78; refine (HK.out _ (hbr.drew)).mono ?_; rintro e w2 ⟨rfl,hbe⟩)
         refine tkA (i:=28) rfl ?_
         try simp only [sX]
         refine tkA (i:=29) rfl ?_
         try simp only [sX]
         refine wpAny_done (by kernel_rfl) ?_ _
         go_wp2
         go_roundw
         case rel => exact ⟨k + 1,by omega,by go_num,by rw [acc_step hkl HAC.out,HRK.out,q2]; simp,(hbr.drew).trans (hbe.mono (hbr.drew).size)⟩
         case measure => simp [intOf]; omega
   · obtain rfl : k = n:=by omega
     go_wp2
     go_ret
     exact ⟨ret_bool (by rw [right_of (qo:=qo) HQ2.out]; exact acc_end HN.out),hbr⟩
end Go.Proofs.YtelombedjkbckaaGreatDoor
