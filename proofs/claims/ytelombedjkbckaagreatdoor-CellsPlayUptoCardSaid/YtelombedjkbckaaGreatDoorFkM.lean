/- counterpaneref06.own,right,Check. -/
import Derived.Test.YtelombedjkbckaaGreatDoorFi4M
import Derived.Test.YtelombedjkbckaaGreatDoorFi8M
import Derived.Test.YtelombedjkbckaaGreatDoorFi9M
import Derived.Test.YtelombedjkbckaaGreatDoorFjQb
namespace Go.Proofs.YtelombedjkbckaaGreatDoor
set_option maxRecDepth 100000
set_option maxHeartbeats 4000000
open Go.RowKit Go.Shelf Go.Sort Go.BigFrame
theorem rown_any (w : World) (B : Nat) (d : ND) (l : List Tr) (A : Option Addr) (c : Nat) (hd : d.ok) (hs : SlAt w B A c l) (hB : B ≤ w.heap.size) :
 Calls Tryz.prog 96 #[nodeV d A l.length c] w fun e w' => e = .returned (.bool (rownB d l.length (kind0 l))) ∧ Below w.heap.size w w':=by
 have hs':=hs.more hB
 have hk0 : l.length = 1 → ∃ kb ko,A = some ⟨kb,ko,none⟩ ∧ kb < w.heap.size ∧ w.cell? ⟨kb,ko,none⟩ = some (.int .i64 (kind0 l)):=by
  intro h1
  obtain ⟨b,o,hA,hn⟩:=hs'.at_ 0 (by omega)
  obtain ⟨hb,_,A2,c2,hc,_⟩:=hn.open_
  refine ⟨b,o,hA,hb,?_⟩
  have:=hc.all.1
  rw [Nat.zero_mul,Nat.add_zero] at this
  rw [this]
  match l,h1 with
  | [t],_ => rfl
 obtain ⟨kind,v,name,a,q,rows⟩:=d
 obtain ⟨h1,h2,h3,h4,h5,h6⟩:=id hd
 have z0 : i64 0:=by unfold i64; omega
 have zc : zeroCn.ok:=⟨z0,z0,z0,z0⟩
 have zv : zeroV.ok:=⟨z0,z0,z0,by decide,z0⟩
 have zn : noBytes.size ≤ 9223372036854775807:=by decide
 unfold rownB
 dsimp only at h1 h2 h3 h4 h5 h6 ⊢
 by_cases k0 : kind = 0
 · subst k0
   rw [if_pos rfl]
   exact rown0 w v name a q rows A l.length c _ hd (own_sameF w _ _ l A c hd ⟨h1,h2,zn,zc,zc,z0⟩ hs')
 rw [if_neg k0]
 by_cases k1 : kind = 1
 · subst k1
   rw [if_pos (.inl rfl)]
   exact rown1 w v name a q rows A l.length c _ hd (own_sameF w _ _ l A c hd ⟨h1,zv,zn,h4,zc,z0⟩ hs')
 by_cases k3 : kind = 3
 · subst k3
   rw [if_pos (.inr rfl)]
   exact rown3 w v name a q rows A l.length c _ hd (own_sameF w _ _ l A c hd ⟨h1,zv,zn,h4,zc,z0⟩ hs')
 rw [if_neg (by omega)]
 by_cases k2 : kind = 2
 · subst k2
   rw [if_pos rfl]
   exact rown2 w v name a q rows A l.length c _ hd (own_sameF w _ _ l A c hd ⟨h1,zv,zn,h4,h5,z0⟩ hs')
 rw [if_neg k2]
 by_cases k4 : kind = 4
 · subst k4
   rw [if_pos rfl]
   exact rown4 w v name a q rows A l.length c _ hd (kind0 l) hk0 (own_sameF w _ _ l A c hd ⟨h1,zv,h3,zc,zc,z0⟩ hs')
 rw [if_neg k4]
 by_cases k5 : kind = 5
 · subst k5
   rw [if_pos rfl]
   exact rown5 w v name a q rows A l.length c _ hd (own_sameF w _ _ l A c hd ⟨h1,zv,h3,zc,zc,z0⟩ hs')
 rw [if_neg k5]
 by_cases k6 : kind = 6
 · subst k6
   rw [if_pos rfl]
   exact rown6 w v name a q rows A l.length c _ hd (own_sameF w _ _ l A c hd ⟨h1,zv,h3,zc,zc,z0⟩ hs')
 rw [if_neg k6]
 by_cases k7 : kind = 7
 · subst k7
   rw [if_pos rfl]
   exact rown7 w v name a q rows A l.length c _ hd (own_sameF w _ _ l A c hd ⟨h1,zv,h3,zc,zc,z0⟩ hs')
 rw [if_neg k7]
 by_cases k8 : kind = 8
 · subst k8
   rw [if_pos rfl]
   exact rown8 w v name a q rows A l.length c _ hd (own_sameF w _ _ l A c hd ⟨h1,zv,zn,zc,zc,h6⟩ hs')
 rw [if_neg k8]
 by_cases k9 : kind = 9
 · subst k9
   rw [if_pos rfl]
   exact rown9 w v name a q rows A l.length c _ hd (own_sameF w _ _ l A c hd ⟨h1,zv,zn,zc,zc,z0⟩ hs')
 rw [if_neg k9]
 exact rown10 w kind _ rfl A l.length c rfl (by omega)
theorem rrights_step {k : Int} {l : List Tr} {i : Nat} (hi : i < l.length) (h : rrightsB k (l.take i) = true) : rrightsB k (l.take (i + 1)) = (!(decide (k = 8) && decide (l[i].d.kind ≠ 0)) && !(decide (k ≠ 8) && belowB l[i].d) && rrightB l[i] (decide (k = 4))):=by
 rw [List.take_succ_eq_append_getElem hi,rrights_append,h]; simp [rrightsB]
theorem rrights_no {k : Int} {l : List Tr} {i : Nat} (hi : i < l.length) (h : (!(decide (k = 8) && decide (l[i].d.kind ≠ 0)) && !(decide (k ≠ 8) && belowB l[i].d) && rrightB l[i] (decide (k = 4))) = false) : rrightsB k l = false:=by
 rw [← List.take_append_drop i l,rrights_append,List.drop_eq_getElem_cons hi]
 simp only [rrightsB,h,Bool.false_and,Bool.and_false]
theorem rright_c (t : Tr) : ∀ (w : World) (B : Nat) (A : Option Addr) (c : Nat) (call : Bool) (_ : t.d.ok) (_ : SlAt w B A c t.l) (_ : B ≤ w.heap.size),
 Calls Tryz.prog 71 #[nodeV t.d A t.l.length c,.bool call] w fun e w' => e = .returned (.bool (rrightB t call)) ∧ Below w.heap.size w w':=by
 induction t using Tr.ind with | _ d l ih => ?_
 intro w B A c call hd hs hB
 have IH:=Jh ih
 have HS:=Jh hs
 dsimp only [Tr.d,Tr.l] at HS hd hs ⊢
 have hO:=fun wx (hx : Below w.heap.size w wx) => rown_any wx B d l A c hd (hs.below (hx.mono hB)) (by have:=hx.size; omega)
 clear ih hs hd
 obtain ⟨r,hr⟩ : ∃ r,rrightB (.mk d l) call = r:=⟨_,rfl⟩
 rw [hr]
 simp only [rrightB] at hr
 obtain ⟨n,hn⟩ : ∃ n,l.length = n:=⟨_,rfl⟩
 obtain ⟨N,hN⟩ : ∃ N,N = nodeA d A n c:=⟨_,rfl⟩
 rw [hn] at hr hO
 simp only [nodeV,hn,← hN] at hO ⊢
 have hsl:=HS.out.1
 have hsc:=HS.out.2.1
 rw [hn] at hsl
 have hN21 : N[21]? = some (.slice A n c):=by rw [hN]; rfl
 obtain ⟨kd,hkd⟩ : ∃ kd,d.kind = kd:=⟨_,rfl⟩
 have hN0 : N[0]? = some (.int .i64 kd):=by rw [hN,← hkd]; rfl
 have hNs : N.size = 22:=by rw [hN]; rfl
 have hinf:=infN
 rw [← hNs] at hinf
 rw [hkd] at hr
 obtain ⟨W,hW⟩ : ∃ W,W = w.alloc (.cells N 41):=⟨_,rfl⟩
 have hbW : Below w.heap.size w W:=by rw [hW]; exact (Below.refl _ w).alloc (Nat.le_refl _) _
 have hsz : w.heap.size + 1 = W.heap.size:=by rw [hW]; simp
 have hkW : W.heap[w.heap.size]? = some (.cells N 41):=by rw [hW]; exact World.alloc_heap_new w _
 have haft : ∀ wx,Below W.heap.size W wx → Below w.heap.size w wx ∧ wx.cell? ⟨w.heap.size,0,none⟩ = some (.int .i64 kd) ∧ wx.cell? ⟨w.heap.size,21,none⟩ = some (.slice A n c):=fun wx hx => by
  have hk : wx.heap[w.heap.size]? = some (.cells N 41):=(hx.block _ (by omega)).trans hkW
  exact ⟨hbW.trans (hx.mono (by omega)),by rw [Lib.cell_of_heap hk]; exact hN0,by rw [Lib.cell_of_heap hk]; exact hN21⟩
 obtain ⟨r0,hr0⟩ : ∃ r0,rownB d n (kind0 l) = r0:=⟨_,rfl⟩
 rw [hr0] at hO hr
 have HO:=Jh hO
 have HR:=Jh hr
 have HN:=Jh hn
 have HIN:=Jh hinf
 have HW:=Jh hW
 have HA:=Jh haft
 have HKW:=Jh hkW
 have HBW:=Jh hbW
 clear hO hr hn hN hinf hW haft hkW hbW hN21 hN0 hNs hr0 hkd hsz
 cases r0
 · go_enter Tryz.func71,Tryz.ntmps71
   go_upto_region 1 with (fail)
   (try simp only [Act.put,List.setIfInBounds_toArray,List.set_cons_zero,List.set_cons_succ])
   rw [← HW.out]
   go_wp2_with (first | (refine wpList_row rfl 41 _ rfl w.heap.size rfl 41 N (0,0) _ HKW.out undN rfl HIN.out ?_) | (go_at_call 96; refine (HO.out _ HBW.out).mono ?_; rintro e w2 ⟨rfl,hbe⟩))
   go_ret
   exact ⟨ret_bool (by rw [← HR.out]; rfl),HBW.out.trans (hbe.mono HBW.out.size)⟩
 by_cases h9 : kd = 9 ∧ call = false
 · obtain ⟨rfl,rfl⟩:=h9
   go_enter Tryz.func71,Tryz.ntmps71
   go_upto_region 1 with (fail)
   (try simp only [Act.put,List.setIfInBounds_toArray,List.set_cons_zero,List.set_cons_succ])
   rw [← HW.out]
   go_wp2_with (first | (refine wpList_row rfl 41 _ rfl w.heap.size rfl 41 N (0,0) _ HKW.out undN rfl HIN.out ?_) | (go_at_call 96; refine (HO.out _ HBW.out).mono ?_; rintro e w2 ⟨rfl,hbe⟩; obtain ⟨hb2,hc0,hc21⟩:=HA.out w2 hbe))
   go_ret
   exact ⟨ret_bool (by rw [← HR.out]; rfl),hb2⟩
 have hr2 : r = rrightsB kd l:=by
  rw [← HR.out]
  by_cases h : kd = 9
  · have hc : call = true:=by cases call with | true => rfl | false => exact absurd ⟨h,rfl⟩ h9
    rw [hc]; simp
  · simp [h]
 have HR2:=Jh hr2
 clear HR hr2
 obtain ⟨b9,hb9⟩ : ∃ b,(kd == 9) = b:=⟨_,rfl⟩
 have hb9' : decide (kd = 9) = b9:=by rw [← hb9]; rfl
 have hcall : b9 = true → call = true:=by
  intro h
  rw [h] at hb9
  have h9' : kd = 9:=by simpa using hb9
  cases call with | true => rfl | false => exact absurd ⟨h9',rfl⟩ h9
 clear h9
 have HX:=Jh hcall
 clear hcall
 cases b9
 case' true =>
  obtain rfl:=HX.out rfl
 all_goals clear HX
 all_goals
  go_enter Tryz.func71,Tryz.ntmps71
  go_upto_region 1 with (fail)
  (try simp only [Act.put,List.setIfInBounds_toArray,List.set_cons_zero,List.set_cons_succ])
  rw [← HW.out]
  go_wp2_with (first | (refine wpList_row rfl 41 _ rfl w.heap.size rfl 41 N (0,0) _ HKW.out undN rfl HIN.out ?_) | (go_at_call 96; refine (HO.out _ HBW.out).mono ?_; rintro e w2 ⟨rfl,hbe⟩; obtain ⟨hb2,hc0,hc21⟩:=HA.out w2 hbe))
  clear hb9 hb9' hc0 hc21 hb2
  have HBE:=Jh hbe
  clear hbe
  go_loopw [5] (fun i wr => ∃ j : Nat,j ≤ n ∧ i = .int .i64 j ∧ Hid (rrightsB kd (l.take j) = true) ∧ Hid (Below W.heap.size W wr)) (fun i _ => n - (intOf i).toNat)
  case atStart => exact ⟨0,Nat.zero_le _,rfl,Jh (by simp [rrightsB]),HBE⟩
  case round =>
   obtain ⟨j,hj,rfl,hacc,hbr⟩:=hrel
   obtain ⟨hfin,hc0,hc21⟩:=HA.out wr hbr.out
   have HFI:=Jh hfin
   by_cases hlt : j < n
   · have hjl : j < l.length:=by rw [HN.out]; exact hlt
     obtain ⟨b2,o2,hA,hkn⟩:=HS.out.at_ j hjl
     subst hA
     obtain ⟨hkb,hkdok,A2,c2,hkc,hks⟩:=hkn.open_
     have hkid:=fun wx (hx : Below w.heap.size w wx) => IH.out l[j] (List.getElem_mem hjl) wx B A2 c2 (decide (kd = 4)) hkdok (hks.below (hx.mono hB)) (by have:=hx.size; omega)
     have hbel:=fun wx => rbelow_any wx l[j].d A2 l[j].l.length c2
     obtain ⟨cs,hcs,hcl,hrg⟩:=hkc.range (w':=wr) (fun p hp => hfin.cell (by omega))
     have hkk : wr.cell? ⟨b2,o2 + j * 22,none⟩ = some (.int .i64 l[j].d.kind):=(hfin.cell (p:=⟨b2,o2 + j * 22,none⟩) (by show b2 < _; omega)).trans hkc.all.1
     simp only [nodeV,← hcs] at hkid hbel
     obtain ⟨kk,hkke⟩ : ∃ kk,l[j].d.kind = kk:=⟨_,rfl⟩
     have hstep:=fun h => rrights_step (k:=kd) hjl h
     have hno:=fun h => rrights_no (k:=kd) hjl h
     rw [hkke] at hkk hstep hno
     obtain ⟨bl,hbl⟩ : ∃ b,belowB l[j].d = b:=⟨_,rfl⟩
     obtain ⟨rk,hrk⟩ : ∃ b,rrightB l[j] (decide (kd = 4)) = b:=⟨_,rfl⟩
     rw [hbl] at hbel hstep hno
     rw [hrk] at hkid hstep hno
     obtain ⟨b4,hb4⟩ : ∃ b,decide (kd = 4) = b:=⟨_,rfl⟩
     rw [hb4] at hkid
     have hb4' : (kd == 4) = b4:=by rw [← hb4]; rfl
     have hq0 : ∀ d os,(grow (redrawn wr d) os).cell? ⟨w.heap.size,0,none⟩ = some (.int .i64 kd):=fun d os => cell_regrown hc0 d os
     have hq21 : ∀ d os,(grow (redrawn wr d) os).cell? ⟨w.heap.size,21,none⟩ = some (.slice (some ⟨b2,o2,none⟩) n c):=fun d os => cell_regrown hc21 d os
     have hqk : ∀ d os,(grow (redrawn wr d) os).cell? ⟨b2,o2 + j * 22,none⟩ = some (.int .i64 kk):=fun d os => cell_regrown hkk d os
     have hkid' : ∀ d os,Calls Tryz.prog 71 #[.agg cs.toArray,.bool b4] (grow (redrawn wr d) os) fun e w'' => e = .returned (.bool rk) ∧ ∃ p : Regrown,w'' = grow (redrawn wr p.d) p.os:=fun d os =>
      Calls.regrown_of (hkid _ (hfin.trans ((below_regrown wr d os).mono hfin.size)))
     have hbel' : ∀ d os,Calls Tryz.prog 70 #[.agg cs.toArray] (grow (redrawn wr d) os) fun e w'' => e = .returned (.bool bl) ∧ ∃ p : Regrown,w'' = grow (redrawn wr p.d) p.os:=fun d os =>
      Calls.regrown_of (hbel _)
     have HKI:=Jh hkid'
     have HBL:=Jh hbel'
     have HRG:=Jh hrg
     have HST:=Jh hstep
     have HNO:=Jh hno
     have hcl' : Hid ((Tryz.prog.info? 41).map (·.size) = some cs.length):=Jh (by rw [hcl]; exact infN)
     have hj1 : (j : Int) < (n : Int):=by omega
     have hj0 : (0 : Int) ≤ (j : Int):=by omega
     clear hkn hkb hkdok hkc hks hkid hkid' hbel hbel' hrg hcs hcl hkke hstep hno hbl hrk hfin hkk
     by_cases h8 : kd = 8
     · subst h8
       by_cases hk0 : kk = 0
       · subst hk0
         cases rk
         all_goals
          go_wp2
          refine wp_region_quiet_below (by kernel_rfl) (by kernel_rfl) ?_
          repeat (first
           | (go_big_quiet_want; refine quiet_mid 41 _ rfl b2 (o2 + j * 22) rfl cs _ HRG.out undN rfl hcl'.out ?_; simp only [Act.put,List.setIfInBounds_toArray,List.set_cons_zero,List.set_cons_succ]; go_big_quiet_on)
           | go_big_quiet_step (first | with_reducible exact HBL.out _ _ | with_reducible exact HKI.out _ _))
          refine wpQuiet_nil ?_
          rintro w4 ⟨⟨dq,osq⟩,hq4⟩
          have hb5 : Below wr.heap.size wr w4:=by rw [hq4]; exact below_regrown wr dq osq
          clear hq4
          go_wp2
         · go_ret
           exact ⟨ret_bool (by rw [HR2.out]; exact (HNO.out (by simp)).symm),HFI.out.trans (hb5.mono HFI.out.size)⟩
         · go_roundw
           case rel => exact ⟨j + 1,by omega,by go_num,Jh ((HST.out hacc.out).trans (by simp)),Jh (hbr.out.trans (hb5.mono hbr.out.size))⟩
           case measure => simp [intOf]; omega
       · have q1 : (kk != 0) = true:=by simpa using hk0
         have q2 : decide (kk = 0) = false:=by simpa using hk0
         have hno':=HNO.out (by simp [hk0])
         have HNN:=Jh hno'
         clear hk0 hno'
         go_wp2
         refine wp_region_quiet_below (by kernel_rfl) (by kernel_rfl) ?_
         repeat (first
          | (go_big_quiet_want; refine quiet_mid 41 _ rfl b2 (o2 + j * 22) rfl cs _ HRG.out undN rfl hcl'.out ?_; simp only [Act.put,List.setIfInBounds_toArray,List.set_cons_zero,List.set_cons_succ]; go_big_quiet_on)
          | go_big_quiet_step (first | with_reducible exact HBL.out _ _ | with_reducible exact HKI.out _ _))
         refine wpQuiet_nil ?_
         rintro w4 ⟨⟨dq,osq⟩,hq4⟩
         have hb5 : Below wr.heap.size wr w4:=by rw [hq4]; exact below_regrown wr dq osq
         clear hq4
         go_wp2
         go_ret
         exact ⟨ret_bool (by rw [HR2.out]; exact HNN.out.symm),HFI.out.trans (hb5.mono HFI.out.size)⟩
     · have q1 : (kd == 8) = false:=by simpa using h8
       have q2 : (kd != 8) = true:=by simpa using h8
       have q3 : decide (kd = 8) = false:=by simpa using h8
       have hst' : rrightsB kd (List.take j l) = true → rrightsB kd (List.take (j + 1) l) = (!bl && rk):=fun h => (HST.out h).trans (by simp [h8])
       have hno' : (!bl && rk) = false → rrightsB kd l = false:=fun h => HNO.out (by rw [q3,decide_eq_true h8]; simpa using h)
       have HST2:=Jh hst'
       have HNO2:=Jh hno'
       clear h8 hst' hno'
       cases bl <;> cases rk
       all_goals
        go_wp2
        refine wp_region_quiet_below (by kernel_rfl) (by kernel_rfl) ?_
        repeat (first
         | (go_big_quiet_want; refine quiet_mid 41 _ rfl b2 (o2 + j * 22) rfl cs _ HRG.out undN rfl hcl'.out ?_; simp only [Act.put,List.setIfInBounds_toArray,List.set_cons_zero,List.set_cons_succ]; go_big_quiet_on)
         | go_big_quiet_step (first | with_reducible exact HBL.out _ _ | with_reducible exact HKI.out _ _))
        refine wpQuiet_nil ?_
        rintro w4 ⟨⟨dq,osq⟩,hq4⟩
        have hb5 : Below wr.heap.size wr w4:=by rw [hq4]; exact below_regrown wr dq osq
        clear hq4
        go_wp2
       · go_ret
         exact ⟨ret_bool (by rw [HR2.out]; exact (HNO2.out rfl).symm),HFI.out.trans (hb5.mono HFI.out.size)⟩
       · go_roundw
         case rel => exact ⟨j + 1,by omega,by go_num,Jh (HST2.out hacc.out),Jh (hbr.out.trans (hb5.mono hbr.out.size))⟩
         case measure => simp [intOf]; omega
       · go_ret
         exact ⟨ret_bool (by rw [HR2.out]; exact (HNO2.out rfl).symm),HFI.out.trans (hb5.mono HFI.out.size)⟩
       · go_ret
         exact ⟨ret_bool (by rw [HR2.out]; exact (HNO2.out rfl).symm),HFI.out.trans (hb5.mono HFI.out.size)⟩
   · obtain rfl : j = n:=by omega
     clear hc0
     go_wp2
     go_ret
     exact ⟨ret_bool (by rw [HR2.out,← hacc.out,← HN.out,List.take_length]),HFI.out⟩
end Go.Proofs.YtelombedjkbckaaGreatDoor
