/- tree.isName. -/
import Derived.Test.YtelombedjkbckaaGreatDoorRlChCmCc
namespace Go.Proofs.YtelombedjkbckaaGreatDoor
set_option maxRecDepth 100000
set_option maxHeartbeats 2000000
open Go.RowKit Go.Shelf
def nameRest (s : ByteArray) : Bool:=!(decide (s.data.toList = [84,82,85,69]) || decide (s.data.toList = [70,65,76,83,69]) || isSeenB s) && !addrB s
theorem name_fin (s : ByteArray) (h0 : 1 ≤ s.size) (h1 : s.size ≤ 32) (h2 : (isCap s[0] || decide (s[0].toNat = 95)) = true) (h3 : ∀ j (hj : j < s.size),nameCh s[j] = true) : isNameB s = nameRest s:=by
 unfold isNameB nameRest
 rw [decide_eq_true ⟨h0,h1⟩,headD_at s h0,h2,all_at h3]; simp
theorem name_no (s : ByteArray) {j : Nat} (hj : j < s.size) (h : nameCh s[j] = false) : isNameB s = false:=by
 unfold isNameB
 rw [not_all_at hj h]; simp
theorem isName_any (s : ByteArray) (hs : s.size ≤ 9223372036854775807) (w : World) : Calls Tryz.prog 105 #[.string s] w fun e w' => e = .returned (.bool (isNameB s)) ∧ Below w.heap.size w w':=by
 by_cases h0 : s.size = 0
 · obtain rfl : s = ByteArray.mk #[]:=by
    apply ByteArray.ext; exact Array.eq_empty_of_size_eq_zero h0
   go_enter Tryz.func105,Tryz.ntmps105
   go_wp2
   go_ret
   exact ⟨rfl,Below.refl _ w⟩
 have hne : s.toList.isEmpty = false:=by
  rw [ByteArray.toList_eq]; cases hd : s.data.toList with
  | nil => exact absurd (by have:=congrArg List.length hd; simpa using this) h0
  | cons a l => rfl
 have hne2 : ¬ s.toList = []:=by intro h; rw [h] at hne; cases hne
 by_cases h1 : 32 < s.size
 · have hr : isNameB s = false:=by unfold isNameB; rw [decide_eq_false (by omega)]; rfl
   rw [hr]
   clear hr
   go_enter Tryz.func105,Tryz.ntmps105
   go_wp2
   go_ret
   exact ⟨rfl,Below.refl _ w⟩
 have h0' : 0 < s.size:=by omega
 have hcap:=fun w => isCapital_any s[0] w
 have hhd:=headD_at s h0'
 have hb0:=s[0].toNat_lt
 by_cases h2 : (isCap s[0] || decide (s[0].toNat = 95)) = false
 · have hr : isNameB s = false:=by unfold isNameB; rw [hhd,h2]; simp
   rw [hr]
   obtain ⟨h2a,h2b⟩ : isCap s[0] = false ∧ ¬ s[0].toNat = 95:=by simpa using h2
   rw [h2a] at hcap
   have HC:=Jh hcap
   have hq : ((s[0].toNat : Int) != 95) = true:=by simp; omega
   clear hr hcap h2 h2a h2b hhd
   go_enter Tryz.func105,Tryz.ntmps105
   go_wp2_with (go_at_call 132; refine (HC.out _).mono ?_; rintro e w' ⟨rfl,rfl⟩)
   go_ret
   exact ⟨rfl,Below.refl _ w⟩
 have h2 : (isCap s[0] || decide (s[0].toNat = 95)) = true:=by cases hh : (isCap s[0] || decide (s[0].toNat = 95)); exact absurd hh h2; rfl
 have H2:=Jh h2
 have hq : isCap s[0] = false → ((s[0].toNat : Int) != 95) = false:=by intro h; rw [h] at h2; simp at h2; simp [h2]
 have HQ:=Jh hq
 obtain ⟨c0,hc0⟩ : ∃ c,isCap s[0] = c:=⟨_,rfl⟩
 have HC0:=Jh hc0
 rw [hc0] at hcap
 have HC:=Jh hcap
 clear hcap h2 hhd hc0 hq
 have hd32 : decide ((32 : Int) < (s.size : Int)) = false:=by simp; omega
 obtain ⟨cap,C,hconv,hC⟩:=conv_bytes s w
 have HCC:=Jh hC
 clear hC
 obtain ⟨r,hr⟩ : ∃ r,r = isNameB s:=⟨_,rfl⟩
 rw [← hr]
 have HR:=Jh hr
 clear hr
 have hq0 : c0 = false → ((s[0].toNat : Int) != 95) = false:=fun h => HQ.out (HC0.out.trans h)
 cases c0
 all_goals (try have hq1:=hq0 rfl)
 all_goals clear hq0
 all_goals
  go_enter Tryz.func105,Tryz.ntmps105
  go_wp2_with (go_at_call 132; refine (HC.out _).mono ?_; rintro e w' ⟨rfl,rfl⟩)
  clear hconv
  obtain ⟨W,hW⟩ : ∃ W,(w.alloc (.cells C 5 (C.size,C.size + 1))).drew = W:=⟨_,rfl⟩
  have hcell : ∀ j (hj : j < s.size),W.cell? ⟨w.heap.size,j,none⟩ = some (.int .u8 s[j].toNat):=by
   intro j hj; rw [← hW]; exact (cell_of_row _ _ j _ _ _ (World.alloc_heap_new w _)).trans (HCC.out j hj)
  have HCE:=Jh hcell
  have hB : Below w.heap.size w W:=by rw [← hW]; exact ((Below.refl _ w).alloc (Nat.le_refl _) _).drew
  have HB:=Jh hB
  rw [hW]
  clear hcell hB hW hd32 hne hne2 HC0 HQ
  go_loop [4,29] (fun _ i => ∃ k : Nat,k ≤ s.size ∧ i = .int .i64 k ∧ Hid (∀ j (hj : j < s.size),j < k → nameCh s[j] = true)) (fun _ i => s.size - (intOf i).toNat)
  case atStart => exact ⟨0,by omega,rfl,fun j _ h => by omega⟩
  case round =>
   obtain ⟨k,hk,rfl,hall⟩:=hrel
   by_cases hlt : k < s.size
   · have hc:=HCE.out k hlt
     have hA:=fun w => isCapital_any s[k] w
     have hD:=fun w => isDigit_any s[k] w
     have hnext : nameCh s[k] = true → Hid (∀ j (hj : j < s.size),j < k + 1 → nameCh s[j] = true):=fun h j hj hjk => by
      by_cases e : j = k
      · subst e; exact h
      · exact hall.out j hj (by omega)
     have hstop : nameCh s[k] = false → Hid (isNameB s = false):=fun h => name_no s hlt h
     unfold nameCh at hnext hstop
     have hbl:=s[k].toNat_lt
     obtain ⟨b,hb⟩ : ∃ b : UInt8,s[k] = b:=⟨_,rfl⟩
     rw [hb] at hA hD hc hnext hstop hbl
     clear hb
     obtain ⟨n,hn⟩ : ∃ n : Nat,b.toNat = n:=⟨_,rfl⟩
     rw [hn] at hA hD hc hnext hstop hbl
     clear hn
     obtain ⟨qa,hqa⟩ : ∃ q,isCap b = q:=⟨_,rfl⟩
     obtain ⟨qd,hqd⟩ : ∃ q,isDig b = q:=⟨_,rfl⟩
     rw [hqa] at hA hnext hstop
     rw [hqd] at hD hnext hstop
     clear hqa hqd
     have HA:=Jh hA
     have HD:=Jh hD
     have HN:=Jh hnext
     have HS:=Jh hstop
     clear hA hD hnext hstop hall
     cases qa
     · cases qd
       · by_cases hus : n = 95
         · have hnx:=HN.out (by simp [hus])
           have hq : ((n : Int) != 95) = false:=by simp [hus]
           clear hus HN HS
           go_wp2_with (first | (go_at_call 132; refine (HA.out _).mono ?_; rintro e w' ⟨rfl,rfl⟩) | (go_at_call 133; refine (HD.out _).mono ?_; rintro e w' ⟨rfl,rfl⟩))
           go_round
           case rel => exact ⟨k + 1,by omega,by go_num,hnx⟩
           case measure => simp [intOf]; omega
         · have hqu : ((n : Int) != 95) = true:=by simp; omega
           by_cases hdot : n = 46
           · have hnx:=HN.out (by simp [hdot])
             have hq : ((n : Int) != 46) = false:=by simp [hdot]
             clear hdot hus HN HS
             go_wp2_with (first | (go_at_call 132; refine (HA.out _).mono ?_; rintro e w' ⟨rfl,rfl⟩) | (go_at_call 133; refine (HD.out _).mono ?_; rintro e w' ⟨rfl,rfl⟩))
             go_round
             case rel => exact ⟨k + 1,by omega,by go_num,hnx⟩
             case measure => simp [intOf]; omega
           · have hnx:=HS.out (by simp [hdot,hus])
             have hq : ((n : Int) != 46) = true:=by simp; omega
             clear hdot hus HN HS
             go_wp2_with (first | (go_at_call 132; refine (HA.out _).mono ?_; rintro e w' ⟨rfl,rfl⟩) | (go_at_call 133; refine (HD.out _).mono ?_; rintro e w' ⟨rfl,rfl⟩))
             go_ret
             exact ⟨ret_bool (by rw [HR.out,hnx.out]),HB.out⟩
       · have hnx:=HN.out (by simp)
         clear HN HS
         go_wp2_with (first | (go_at_call 132; refine (HA.out _).mono ?_; rintro e w' ⟨rfl,rfl⟩) | (go_at_call 133; refine (HD.out _).mono ?_; rintro e w' ⟨rfl,rfl⟩))
         go_round
         case rel => exact ⟨k + 1,by omega,by go_num,hnx⟩
         case measure => simp [intOf]; omega
     · have hnx:=HN.out (by simp)
       clear HN HS
       go_wp2_with (first | (go_at_call 132; refine (HA.out _).mono ?_; rintro e w' ⟨rfl,rfl⟩) | (go_at_call 133; refine (HD.out _).mono ?_; rintro e w' ⟨rfl,rfl⟩))
       go_round
       case rel => exact ⟨k + 1,by omega,by go_num,hnx⟩
       case measure => simp [intOf]; omega
   · have hfin:=name_fin s (by omega) (by omega) H2.out (fun j hj => hall.out j hj (by omega))
     have hS:=fun w => split_any s (by omega) w
     have hN:=fun w => isSeen_any s (by omega) w
     unfold nameRest addrB at hfin
     have hLD:=runOf_le isDig s (runOf isCap s 0) (by have:=runOf_le isCap s 0 (by omega); omega)
     obtain ⟨L,hL⟩ : ∃ L,L = runOf isCap s 0:=⟨_,rfl⟩
     rw [← hL] at hfin hS hLD
     obtain ⟨D,hD⟩ : ∃ D,D = runOf isDig s L:=⟨_,rfl⟩
     rw [← hD] at hfin hS hLD
     rw [← ByteArray.toList_eq] at hfin
     obtain ⟨qn,hqn⟩ : ∃ q,isSeenB s = q:=⟨_,rfl⟩
     rw [hqn] at hN hfin
     clear hL hD hall hqn
     have HF:=Jh hfin
     have HN:=Jh hN
     clear hfin hN
     by_cases et : s.toList = [84,82,85,69]
     · have ft : Hid (r = false):=by show _ = _; rw [HR.out,HF.out]; simp [et]
       have q1 : (s.toList == [84,82,85,69]) = true:=by simp [et]
       have q2 : decide (s.toList = [84,82,85,69]) = true:=by simp [et]
       clear et hS
       go_wp2
       go_ret
       exact ⟨ret_bool ft.out.symm,HB.out⟩
     have q1 : (s.toList == [84,82,85,69]) = false:=by simp [et]
     have q2 : decide (s.toList = [84,82,85,69]) = false:=by simp [et]
     by_cases ef : s.toList = [70,65,76,83,69]
     · have ft : Hid (r = false):=by show _ = _; rw [HR.out,HF.out]; simp [ef]
       have q3 : (s.toList == [70,65,76,83,69]) = true:=by simp [ef]
       have q4 : decide (s.toList = [70,65,76,83,69]) = true:=by simp [ef]
       clear et ef hS
       go_wp2
       go_ret
       exact ⟨ret_bool ft.out.symm,HB.out⟩
     have q3 : (s.toList == [70,65,76,83,69]) = false:=by simp [ef]
     have q4 : decide (s.toList = [70,65,76,83,69]) = false:=by simp [ef]
     have ET:=Jh et
     have EF:=Jh ef
     clear et ef
     cases qn
     case true =>
      have ft : Hid (r = false):=by show _ = _; rw [HR.out,HF.out]; simp
      clear hS
      go_wp2_with (go_at_call 135; refine (HN.out _).mono ?_; rintro e w2 ⟨rfl,hbe⟩)
      go_ret
      exact ⟨ret_bool ft.out.symm,HB.out.trans (hbe.mono HB.out.size)⟩
     have ft : Hid (r = !decide (L + D = s.size ∧ 1 ≤ L ∧ L ≤ 3 ∧ 1 ≤ D)):=by show _ = _; rw [HR.out,HF.out]; simp [ET.out,EF.out]
     by_cases e1 : L + D = s.size
     · rw [decide_eq_true e1] at hS
       have HS:=Jh hS
       have E1:=Jh e1
       clear hS e1
       go_wp2_with (first | (go_at_call 134; refine (HS.out _).mono ?_; rintro e w' ⟨rfl,rfl⟩) | (go_at_call 135; refine (HN.out _).mono ?_; rintro e w2 ⟨rfl,hbe⟩))
       all_goals
        go_ret
        exact ⟨ret_bool (by rw [ft.out,Bool.eq_iff_iff]; have:=E1.out; simp; omega),HB.out.trans (hbe.mono HB.out.size)⟩
     · rw [decide_eq_false e1] at hS
       have HS:=Jh hS
       have E1:=Jh e1
       clear hS e1
       go_wp2_with (first | (go_at_call 134; refine (HS.out _).mono ?_; rintro e w' ⟨rfl,rfl⟩) | (go_at_call 135; refine (HN.out _).mono ?_; rintro e w2 ⟨rfl,hbe⟩))
       go_ret
       exact ⟨ret_bool (by rw [ft.out]; simp [E1.out]),HB.out.trans (hbe.mono HB.out.size)⟩
end Go.Proofs.YtelombedjkbckaaGreatDoor
