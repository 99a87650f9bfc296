/- counterpaneref06.mark. counterpaneref06.Function. -/
import Derived.Test.YtelombedjkbckaaGreatDoorFh0Fb
import Derived.Test.YtelombedjkbckaaGreatDoorFh1M
namespace Go.Proofs.YtelombedjkbckaaGreatDoor
set_option maxRecDepth 100000
set_option maxHeartbeats 2000000
open Go.RowKit Go.Shelf
theorem rmark_any (s : ByteArray) (hs : s.size ≤ 9223372036854775807) (w : World) : Calls Tryz.prog 152 #[.string s] w fun e w' => e = .returned (.bool (markB s)) ∧ w = w':=by
 go_enter Tryz.func152,Tryz.ntmps152
 go_wp2
 go_loop [3] (fun i => ∃ k : Nat,k ≤ s.size ∧ i = .int .i64 k ∧ Hid (k + runOf isCap s k = runOf isCap s 0)) (fun i => s.size - (intOf i).toNat)
 case atStart => exact ⟨0,by omega,rfl,by show _ = _; omega⟩
 case round =>
  obtain ⟨k,hk,rfl,hsc⟩:=hrel
  have hle:=runOf_le isDig s k hk
  by_cases hlt : k < s.size
  · have hL:=fun w => letter_any s[k] w
    have hbl:=s[k].toNat_lt
    by_cases hi : isCap s[k] = true
    · have hst : Hid (k + 1 + runOf isCap s (k + 1) = runOf isCap s 0):=by show _ = _; have:=hsc.out; rw [runOf_step _ s k hlt hi] at this; omega
      rw [hi] at hL
      have HL:=Jh hL
      clear hi hsc hL hle
      go_wp2_with (go_at_call 150; refine (HL.out _).mono ?_; rintro e w' ⟨rfl,rfl⟩)
      go_round
      case rel => exact ⟨k + 1,by omega,by go_num,hst⟩
      case measure => simp [intOf]; omega
    · have hi' : isCap s[k] = false:=by simpa using hi
      have hst : k = runOf isCap s 0:=by have:=hsc.out; rw [runOf_stop _ s k (fun _ => hi')] at this; omega
      have hfin : markB s = decide (k + runOf isDig s k = s.size ∧ k ≤ 3 ∧ 1 ≤ runOf isDig s k ∧ runOf isDig s k ≤ 7 ∧ s[k].toNat ≠ 48):=by
       have : markB s = _:=rfl
       unfold markB
       rw [← hst,getD_at s k hlt]
      have hdg:=fun w => rdigits_any (s.extract k s.size) (by simp; omega) w
      rw [digits_from s k hk] at hdg
      rw [hi'] at hL
      have HL:=Jh hL
      have HF:=Jh hfin
      clear hi hi' hsc hL hst hfin
      by_cases c1 : k ≤ 3
      case neg =>
       have q : Hid (markB s = false):=Jh (by rw [HF.out]; simp; omega)
       clear hdg
       go_wp2_with (go_at_call 150; refine (HL.out _).mono ?_; rintro e w' ⟨rfl,rfl⟩)
       go_ret
       exact ⟨ret_bool q.out.symm,rfl⟩
      by_cases c2 : s.size - k ≤ 7
      case neg =>
       have q : Hid (markB s = false):=Jh (by rw [HF.out]; simp; omega)
       have q2 : ¬ (s.size : Int) - (k : Int) ≤ 7:=by omega
       clear hdg
       go_wp2_with (go_at_call 150; refine (HL.out _).mono ?_; rintro e w' ⟨rfl,rfl⟩)
       go_ret
       exact ⟨ret_bool q.out.symm,rfl⟩
      have c2' : (s.size : Int) - (k : Int) ≤ 7:=by omega
      by_cases c3 : s[k].toNat = 48
      case pos =>
       have q : Hid (markB s = false):=Jh (by rw [HF.out]; simp; omega)
       have q2 : ((s[k].toNat : Int) != 48) = false:=by simp; omega
       clear hdg c3
       go_wp2_with (go_at_call 150; refine (HL.out _).mono ?_; rintro e w' ⟨rfl,rfl⟩)
       go_ret
       exact ⟨ret_bool q.out.symm,rfl⟩
      have q2 : ((s[k].toNat : Int) != 48) = true:=by simp; omega
      have q : Hid (markB s = decide (k + runOf isDig s k = s.size)):=Jh (by rw [HF.out,Bool.eq_iff_iff]; simp; omega)
      have HD:=Jh hdg
      clear hdg c3
      generalize decide (k + runOf isDig s k = s.size) = dg at *
      go_wp2_with (first | (go_at_call 150; refine (HL.out _).mono ?_; rintro e w' ⟨rfl,rfl⟩) | (go_at_call 164; refine (HD.out _).mono ?_; rintro e w' ⟨rfl,rfl⟩))
      go_ret
      exact ⟨ret_bool q.out.symm,rfl⟩
  · have hst : k = runOf isCap s 0:=by have:=hsc.out; rw [runOf_stop _ s k (fun h => absurd h hlt)] at this; omega
    have q : Hid (markB s = false):=Jh (by unfold markB; rw [← hst,runOf_stop isDig s k (fun h => absurd h hlt)]; simp)
    clear hsc hst hle
    by_cases c1 : k ≤ 3
    · go_wp2
      go_ret
      exact ⟨ret_bool q.out.symm,rfl⟩
    · go_wp2
      go_ret
      exact ⟨ret_bool q.out.symm,rfl⟩
end Go.Proofs.YtelombedjkbckaaGreatDoor
namespace Go.Proofs.YtelombedjkbckaaGreatDoor
set_option maxRecDepth 100000
set_option maxHeartbeats 2000000
open Go.RowKit Go.Shelf
theorem rfunction_any (s : ByteArray) (hs : s.size ≤ 9223372036854775807) (w : World) : Calls Tryz.prog 129 #[.string s] w fun e w' => e = .returned (.bool (isCallB s)) ∧ w = w':=by
 by_cases h0 : s.size = 0
 · have hr : isCallB s = false:=by unfold isCallB; rw [decide_eq_false (by omega)]; rfl
   rw [hr]
   clear hr
   go_enter Tryz.func129,Tryz.ntmps129
   go_wp2
   go_ret
   exact ⟨rfl,rfl⟩
 by_cases h1 : 32 < s.size
 · have hr : isCallB s = false:=by unfold isCallB; rw [decide_eq_false (by omega)]; rfl
   rw [hr]
   clear hr
   go_enter Tryz.func129,Tryz.ntmps129
   go_wp2
   go_ret
   exact ⟨rfl,rfl⟩
 have h0' : 0 < s.size:=by omega
 have hcap:=fun w => letter_any s[0] w
 have hb0:=s[0].toNat_lt
 by_cases h2 : isCap s[0] = true
 case neg =>
  have h2' : isCap s[0] = false:=by simpa using h2
  have hr : isCallB s = false:=by unfold isCallB; rw [headD_at s h0',h2']; simp
  rw [hr]
  rw [h2'] at hcap
  have HL:=Jh hcap
  clear hr hcap h2 h2'
  go_enter Tryz.func129,Tryz.ntmps129
  go_wp2_with (go_at_call 150; refine (HL.out _).mono ?_; rintro e w' ⟨rfl,rfl⟩)
  go_ret
  exact ⟨rfl,rfl⟩
 have H2:=Jh h2
 rw [h2] at hcap
 have HL0:=Jh hcap
 have HST0 : Hid (∀ j (hj : j < s.size),j < 1 → callCh s[j] = true):=Jh (fun j hj h => by
  obtain rfl : j = 0:=by omega
  unfold callCh
  rw [H2.out]; rfl)
 obtain ⟨r,hr⟩ : ∃ r,r = isCallB s:=⟨_,rfl⟩
 rw [← hr]
 have HR:=Jh hr
 clear hr hcap h2
 go_enter Tryz.func129,Tryz.ntmps129
 go_wp2_with (go_at_call 150; refine (HL0.out _).mono ?_; rintro e w' ⟨rfl,rfl⟩)
 go_loop [3] (fun i => ∃ k : Nat,1 ≤ k ∧ k ≤ s.size ∧ i = .int .i64 k ∧ Hid (∀ j (hj : j < s.size),j < k → callCh s[j] = true)) (fun i => s.size - (intOf i).toNat)
 case atStart => exact ⟨1,Nat.le_refl _,by omega,rfl,HST0⟩
 case round =>
  obtain ⟨k,hk1,hk,rfl,hall⟩:=hrel
  by_cases hlt : k < s.size
  · have hL:=fun w => letter_any s[k] w
    have hD:=fun w => digit_any s[k] w
    have hbl:=s[k].toNat_lt
    have hch : callCh s[k] = (isCap s[k] || isDig s[k] || decide (s[k].toNat = 46)):=rfl
    by_cases hi : isCap s[k] = true
    · have hnx : Hid (∀ j (hj : j < s.size),j < k + 1 → callCh s[j] = true):=Jh (fun j hj h => by
       rcases Nat.lt_or_ge j k with h' | h'
       · exact hall.out j hj h'
       · obtain rfl : j = k:=by omega
         rw [hch,hi]; rfl)
      rw [hi] at hL
      have HL:=Jh hL
      clear hi hL hD hch hall
      go_wp2_with (go_at_call 150; refine (HL.out _).mono ?_; rintro e w' ⟨rfl,rfl⟩)
      go_round
      case rel => exact ⟨k + 1,by omega,by omega,by go_num,hnx⟩
      case measure => simp [intOf]; omega
    have hi' : isCap s[k] = false:=by simpa using hi
    rw [hi'] at hL hch
    by_cases hg : isDig s[k] = true
    · have hnx : Hid (∀ j (hj : j < s.size),j < k + 1 → callCh s[j] = true):=Jh (fun j hj h => by
       rcases Nat.lt_or_ge j k with h' | h'
       · exact hall.out j hj h'
       · obtain rfl : j = k:=by omega
         rw [hch,hg]; rfl)
      rw [hg] at hD
      have HL:=Jh hL
      have HD:=Jh hD
      clear hi hi' hg hL hD hch hall
      go_wp2_with (first | (go_at_call 150; refine (HL.out _).mono ?_; rintro e w' ⟨rfl,rfl⟩) | (go_at_call 151; refine (HD.out _).mono ?_; rintro e w' ⟨rfl,rfl⟩))
      go_round
      case rel => exact ⟨k + 1,by omega,by omega,by go_num,hnx⟩
      case measure => simp [intOf]; omega
    have hg' : isDig s[k] = false:=by simpa using hg
    rw [hg'] at hD hch
    have HL:=Jh hL
    have HD:=Jh hD
    clear hi hi' hg hg' hL hD
    by_cases hp : s[k].toNat = 46
    · have hnx : Hid (∀ j (hj : j < s.size),j < k + 1 → callCh s[j] = true):=Jh (fun j hj h => by
       rcases Nat.lt_or_ge j k with h' | h'
       · exact hall.out j hj h'
       · obtain rfl : j = k:=by omega
         rw [hch,hp]; rfl)
      have q : ((s[k].toNat : Int) != 46) = false:=by simp; omega
      clear hch hall hp
      go_wp2_with (first | (go_at_call 150; refine (HL.out _).mono ?_; rintro e w' ⟨rfl,rfl⟩) | (go_at_call 151; refine (HD.out _).mono ?_; rintro e w' ⟨rfl,rfl⟩))
      go_round
      case rel => exact ⟨k + 1,by omega,by omega,by go_num,hnx⟩
      case measure => simp [intOf]; omega
    · have ft : Hid (r = false):=Jh (by rw [HR.out]; exact call_no s hlt (by rw [hch]; simp [hp]))
      have q : ((s[k].toNat : Int) != 46) = true:=by simp; omega
      clear hch hall hp
      go_wp2_with (first | (go_at_call 150; refine (HL.out _).mono ?_; rintro e w' ⟨rfl,rfl⟩) | (go_at_call 151; refine (HD.out _).mono ?_; rintro e w' ⟨rfl,rfl⟩))
      go_ret
      exact ⟨ret_bool ft.out.symm,rfl⟩
  · have hM:=fun w => rmark_any s hs w
    have hfin : r = !markB s:=by rw [HR.out]; exact call_fin s (by omega) (by omega) H2.out (fun j hj => hall.out j hj (by omega))
    generalize markB s = m at *
    have HM:=Jh hM
    have HF:=Jh hfin
    clear hM hfin hall
    go_wp2_with (go_at_call 152; refine (HM.out _).mono ?_; rintro e w' ⟨rfl,rfl⟩)
    go_ret
    exact ⟨ret_bool HF.out.symm,rfl⟩
end Go.Proofs.YtelombedjkbckaaGreatDoor
