/- counterpaneref06.Name. -/
import Derived.Test.YtelombedjkbckaaGreatDoorFh0Fb
import Derived.Test.YtelombedjkbckaaGreatDoorCdM
namespace Go.Proofs.YtelombedjkbckaaGreatDoor
set_option maxRecDepth 100000
set_option maxHeartbeats 4000000
open Go.RowKit Go.Shelf
theorem rname_any (s : ByteArray) (hs : s.size ≤ 9223372036854775807) (w : World) : Calls Tryz.prog 131 #[.string s] w fun e w' => e = .returned (.bool (isNameB s)) ∧ Below w.heap.size w w':=by
 by_cases h0 : s.size = 0
 · have hr : isNameB s = false:=by unfold isNameB; rw [decide_eq_false (by omega)]; rfl
   rw [hr]
   clear hr
   go_enter Tryz.func131,Tryz.ntmps131
   go_wp2
   go_ret
   exact ⟨rfl,Below.refl _ _⟩
 by_cases h1 : 32 < s.size
 · have hr : isNameB s = false:=by unfold isNameB; rw [decide_eq_false (by omega)]; rfl
   rw [hr]
   clear hr
   go_enter Tryz.func131,Tryz.ntmps131
   go_wp2
   go_ret
   exact ⟨rfl,Below.refl _ _⟩
 have h0' : 0 < s.size:=by omega
 have hcap:=fun w => letter_any s[0] w
 have hb0:=s[0].toNat_lt
 have hhd:=headD_at s h0'
 by_cases h2 : (isCap s[0] || decide (s[0].toNat = 95)) = true
 case neg =>
  obtain ⟨h2a,h2b⟩ : isCap s[0] = false ∧ ¬ s[0].toNat = 95:=by simpa using h2
  have hr : isNameB s = false:=by unfold isNameB; rw [hhd,h2a,decide_eq_false h2b]; simp
  rw [hr]
  rw [h2a] at hcap
  have HL:=Jh hcap
  have hq : ((s[0].toNat : Int) != 95) = true:=by simp; omega
  clear hr hcap h2 h2a h2b hhd
  go_enter Tryz.func131,Tryz.ntmps131
  go_wp2_with (go_at_call 150; refine (HL.out _).mono ?_; rintro e w' ⟨rfl,rfl⟩)
  go_ret
  exact ⟨rfl,Below.refl _ _⟩
 have H2:=Jh h2
 have hq : isCap s[0] = false → ((s[0].toNat : Int) != 95) = false:=by intro h; rw [h] at h2; simp at h2; simp [h2]
 obtain ⟨c0,hc0⟩ : ∃ c,isCap s[0] = c:=⟨_,rfl⟩
 rw [hc0] at hcap hq
 have HL0:=Jh hcap
 have hA:=fun w => raddress_any s hs w
 obtain ⟨ad,had⟩ : ∃ ad,ad = (addrB s || isSeenB s):=⟨_,rfl⟩
 rw [← had] at hA
 have HA:=Jh hA
 have HAD:=Jh had
 have HST0 : Hid (∀ j (hj : j < s.size),j < 1 → nameCh s[j] = true):=Jh (fun j hj h => by
  obtain rfl : j = 0:=by omega
  have:=H2.out
  unfold nameCh
  rcases Bool.or_eq_true _ _ |>.mp this with h | h <;> simp [h])
 obtain ⟨r,hr⟩ : ∃ r,r = isNameB s:=⟨_,rfl⟩
 rw [← hr]
 have hrest : s.toList = [84,82,85,69] ∨ s.toList = [70,65,76,83,69] ∨ ad = true → r = false:=by
  intro h
  rw [hr]
  unfold isNameB
  rw [ByteArray.toList_eq] at h
  rcases h with h | h | h
  · simp [h]
  · simp [h]
  · rw [had] at h
    rcases Bool.or_eq_true _ _ |>.mp h with h | h <;> simp [h]
 have hgood : ¬ s.toList = [84,82,85,69] → ¬ s.toList = [70,65,76,83,69] → ad = false → (∀ j (hj : j < s.size),nameCh s[j] = true) → r = true:=by
  intro e1 e2 e3 e4
  rw [hr,name_fin s (by omega) (by omega) H2.out e4]
  unfold nameRest
  rw [ByteArray.toList_eq] at e1 e2
  rw [had] at e3
  simp only [Bool.or_eq_false_iff] at e3
  simp [e1,e2,e3.1,e3.2]
 have HREST:=Jh hrest
 have HGOOD:=Jh hgood
 have HR:=Jh hr
 have HC0:=Jh hc0
 clear hr hcap h2 hhd hA had hrest hgood hc0
 have hq0 : c0 = false → ((s[0].toNat : Int) != 95) = false:=hq
 clear hq
 cases c0
 all_goals (try have hq1:=hq0 rfl)
 all_goals clear hq0
 all_goals
  by_cases et : s.toList = [84,82,85,69]
  case pos =>
   have ft : Hid (r = false):=Jh (HREST.out (.inl et))
   have q1 : (s.toList == [84,82,85,69]) = true:=by simp [et]
   have q2 : decide (s.toList = [84,82,85,69]) = true:=by simp [et]
   clear et
   go_enter Tryz.func131,Tryz.ntmps131
   go_wp2_with (go_at_call 150; refine (HL0.out _).mono ?_; rintro e w' ⟨rfl,rfl⟩)
   go_ret
   exact ⟨ret_bool ft.out.symm,Below.refl _ _⟩
  have q1 : (s.toList == [84,82,85,69]) = false:=by simp [et]
  have q2 : decide (s.toList = [84,82,85,69]) = false:=by simp [et]
  by_cases ef : s.toList = [70,65,76,83,69]
  case pos =>
   have ft : Hid (r = false):=Jh (HREST.out (.inr (.inl ef)))
   have q3 : (s.toList == [70,65,76,83,69]) = true:=by simp [ef]
   have q4 : decide (s.toList = [70,65,76,83,69]) = true:=by simp [ef]
   clear et ef
   go_enter Tryz.func131,Tryz.ntmps131
   go_wp2_with (go_at_call 150; refine (HL0.out _).mono ?_; rintro e w' ⟨rfl,rfl⟩)
   go_ret
   exact ⟨ret_bool ft.out.symm,Below.refl _ _⟩
  have q3 : (s.toList == [70,65,76,83,69]) = false:=by simp [ef]
  have q4 : decide (s.toList = [70,65,76,83,69]) = false:=by simp [ef]
  have ET:=Jh et
  have EF:=Jh ef
  clear et ef
  cases ad
  case true =>
   have ft : Hid (r = false):=Jh (HREST.out (.inr (.inr rfl)))
   go_enter Tryz.func131,Tryz.ntmps131
   go_wp2_with (first | (go_at_call 150; refine (HL0.out _).mono ?_; rintro e w' ⟨rfl,rfl⟩) | (go_at_call 153; refine (HA.out _).mono ?_; rintro e w2 ⟨rfl,hbe⟩))
   go_ret
   exact ⟨ret_bool ft.out.symm,hbe⟩
  go_enter Tryz.func131,Tryz.ntmps131
  go_wp2_with (first | (go_at_call 150; refine (HL0.out _).mono ?_; rintro e w' ⟨rfl,rfl⟩) | (go_at_call 153; refine (HA.out _).mono ?_; rintro e w2 ⟨rfl,hbe⟩))
  clear q1 q2 q3 q4
  have HBE:=Jh hbe
  clear hbe
  go_loop [3] (fun i => ∃ k : Nat,1 ≤ k ∧ k ≤ s.size ∧ i = .int .i64 k ∧ Hid (∀ j (hj : j < s.size),j < k → nameCh s[j] = true)) (fun i => s.size - (intOf i).toNat)
  case atStart => exact ⟨1,Nat.le_refl _,by omega,rfl,HST0⟩
  case round =>
   obtain ⟨k,hk1,hk,rfl,hall⟩:=hrel
   by_cases hlt : k < s.size
   · have hL:=fun w => letter_any s[k] w
     have hD:=fun w => digit_any s[k] w
     have hbl:=s[k].toNat_lt
     have hch : nameCh s[k] = (isCap s[k] || isDig s[k] || decide (s[k].toNat = 95) || decide (s[k].toNat = 46)):=rfl
     have hnx : nameCh s[k] = true → Hid (∀ j (hj : j < s.size),j < k + 1 → nameCh s[j] = true):=fun hc => Jh (fun j hj h => by
      rcases Nat.lt_or_ge j k with h' | h'
      · exact hall.out j hj h'
      · obtain rfl : j = k:=by omega
        exact hc)
     by_cases hi : isCap s[k] = true
     · have hn:=hnx (by rw [hch,hi]; rfl)
       rw [hi] at hL
       have HL:=Jh hL
       clear hi hL hD hch hall hnx
       go_wp2_with (go_at_call 150; refine (HL.out _).mono ?_; rintro e w' ⟨rfl,rfl⟩)
       go_round
       case rel => exact ⟨k + 1,by omega,by omega,by go_num,hn⟩
       case measure => simp [intOf]; omega
     have hi' : isCap s[k] = false:=by simpa using hi
     rw [hi'] at hL hch
     by_cases hg : isDig s[k] = true
     · have hn:=hnx (by rw [hch,hg]; rfl)
       rw [hg] at hD
       have HL:=Jh hL
       have HD:=Jh hD
       clear hi hi' hg hL hD hch hall hnx
       go_wp2_with (first | (go_at_call 150; refine (HL.out _).mono ?_; rintro e w' ⟨rfl,rfl⟩) | (go_at_call 151; refine (HD.out _).mono ?_; rintro e w' ⟨rfl,rfl⟩))
       go_round
       case rel => exact ⟨k + 1,by omega,by omega,by go_num,hn⟩
       case measure => simp [intOf]; omega
     have hg' : isDig s[k] = false:=by simpa using hg
     rw [hg'] at hD hch
     have HL:=Jh hL
     have HD:=Jh hD
     clear hi hi' hg hg' hL hD
     by_cases hp : s[k].toNat = 46
     · have hn:=hnx (by rw [hch]; simp [hp])
       have q : ((s[k].toNat : Int) != 46) = false:=by simp; omega
       clear hch hall hp hnx
       go_wp2_with (first | (go_at_call 150; refine (HL.out _).mono ?_; rintro e w' ⟨rfl,rfl⟩) | (go_at_call 151; refine (HD.out _).mono ?_; rintro e w' ⟨rfl,rfl⟩))
       go_round
       case rel => exact ⟨k + 1,by omega,by omega,by go_num,hn⟩
       case measure => simp [intOf]; omega
     have q : ((s[k].toNat : Int) != 46) = true:=by simp; omega
     by_cases hu : s[k].toNat = 95
     · have hn:=hnx (by rw [hch]; simp [hu])
       have q' : ((s[k].toNat : Int) != 95) = false:=by simp; omega
       clear hch hall hp hnx hu
       go_wp2_with (first | (go_at_call 150; refine (HL.out _).mono ?_; rintro e w' ⟨rfl,rfl⟩) | (go_at_call 151; refine (HD.out _).mono ?_; rintro e w' ⟨rfl,rfl⟩))
       go_round
       case rel => exact ⟨k + 1,by omega,by omega,by go_num,hn⟩
       case measure => simp [intOf]; omega
     · have ft : Hid (r = false):=Jh (by rw [HR.out]; exact name_no s hlt (by rw [hch]; simp [hp,hu]))
       have q' : ((s[k].toNat : Int) != 95) = true:=by simp; omega
       clear hch hall hp hnx hu
       go_wp2_with (first | (go_at_call 150; refine (HL.out _).mono ?_; rintro e w' ⟨rfl,rfl⟩) | (go_at_call 151; refine (HD.out _).mono ?_; rintro e w' ⟨rfl,rfl⟩))
       go_ret
       exact ⟨ret_bool ft.out.symm,HBE.out⟩
   · have ft : Hid (r = true):=Jh (HGOOD.out ET.out EF.out (by simp) (fun j hj => hall.out j hj (by omega)))
     clear hall
     go_wp2
     go_ret
     exact ⟨ret_bool ft.out.symm,HBE.out⟩
end Go.Proofs.YtelombedjkbckaaGreatDoor
