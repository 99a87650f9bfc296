/- counterpaneref06.letter,digit,digits. counterpaneref06.address. -/
import Derived.Test.YtelombedjkbckaaGreatDoorRlChCmCc
import Derived.Test.YtelombedjkbckaaGreatDoorOvNoGtXmCuFeFf
namespace Go.Proofs.YtelombedjkbckaaGreatDoor
set_option maxRecDepth 100000
set_option maxHeartbeats 1000000
open Go.RowKit Go.Shelf
theorem letter_any (b : UInt8) (w : World) : Calls Tryz.prog 150 #[.int .u8 b.toNat] w fun e w' => e = .returned (.bool (isCap b)) ∧ w = w':=by
 have hb:=b.toNat_lt
 unfold isCap
 generalize b.toNat = n at *
 by_cases h1 : 65 ≤ n <;> by_cases h2 : n ≤ 90 <;> simp only [h1,h2] <;> try omega
 all_goals
  go_enter Tryz.func150,Tryz.ntmps150
  go_wp2
  go_ret
  exact ⟨ret_bool (by first | rfl | (simp; omega) | simp),rfl⟩
theorem digit_any (b : UInt8) (w : World) : Calls Tryz.prog 151 #[.int .u8 b.toNat] w fun e w' => e = .returned (.bool (isDig b)) ∧ w = w':=by
 have hb:=b.toNat_lt
 unfold isDig
 generalize b.toNat = n at *
 by_cases h1 : 48 ≤ n <;> by_cases h2 : n ≤ 57 <;> simp only [h1,h2] <;> try omega
 all_goals
  go_enter Tryz.func151,Tryz.ntmps151
  go_wp2
  go_ret
  exact ⟨ret_bool (by first | rfl | (simp; omega) | simp),rfl⟩
def digitsB (s : ByteArray) : Bool:=decide (runOf isDig s 0 = s.size)
theorem rdigits_any (s : ByteArray) (hs : s.size ≤ 9223372036854775807) (w : World) : Calls Tryz.prog 164 #[.string s] w fun e w' => e = .returned (.bool (digitsB s)) ∧ w = w':=by
 go_enter Tryz.func164,Tryz.ntmps164
 go_wp2
 go_loop [3] (fun i => ∃ k : Nat,k ≤ s.size ∧ i = .int .i64 k ∧ Hid (k + runOf isDig s k = runOf isDig s 0)) (fun i => s.size - (intOf i).toNat)
 case atStart => exact ⟨0,by omega,rfl,by show _ = _; omega⟩
 case round =>
  obtain ⟨k,hk,rfl,hsc⟩:=hrel
  by_cases hlt : k < s.size
  · have hD:=fun w => digit_any s[k] w
    have hbl:=s[k].toNat_lt
    by_cases hi : isDig s[k] = true
    · have hst : Hid (k + 1 + runOf isDig s (k + 1) = runOf isDig s 0):=by show _ = _; have:=hsc.out; rw [runOf_step _ s k hlt hi] at this; omega
      rw [hi] at hD
      have HD:=Jh hD
      clear hi hsc hD
      go_wp2_with (go_at_call 151; refine (HD.out _).mono ?_; rintro e w' ⟨rfl,rfl⟩)
      go_round
      case rel => exact ⟨k + 1,by omega,by go_num,hst⟩
      case measure => simp [intOf]; omega
    · have hi' : isDig s[k] = false:=by simpa using hi
      have hst : Hid (digitsB s = false):=by show _ = _; have:=hsc.out; rw [runOf_stop _ s k (fun _ => hi')] at this; unfold digitsB; simp; omega
      rw [hi'] at hD
      have HD:=Jh hD
      clear hi hi' hsc hD
      go_wp2_with (go_at_call 151; refine (HD.out _).mono ?_; rintro e w' ⟨rfl,rfl⟩)
      go_ret
      exact ⟨ret_bool hst.out.symm,rfl⟩
  · have hst : Hid (digitsB s = true):=by show _ = _; have:=hsc.out; rw [runOf_stop _ s k (fun h => absurd h hlt)] at this; unfold digitsB; simp; omega
    clear hsc
    go_wp2
    go_ret
    exact ⟨ret_bool hst.out.symm,rfl⟩
theorem digits_from (s : ByteArray) (k : Nat) (_ : k ≤ s.size) : digitsB (s.extract k s.size) = decide (k + runOf isDig s k = s.size):=by
 unfold digitsB
 rw [runOf_extract,Bool.eq_iff_iff]
 simp only [decide_eq_true_eq,ByteArray.size_extract]
 omega
end Go.Proofs.YtelombedjkbckaaGreatDoor
namespace Go.Proofs.YtelombedjkbckaaGreatDoor
set_option maxRecDepth 100000
set_option maxHeartbeats 2000000
open Go.RowKit Go.Shelf
theorem ret_eqb {a b : Bool} (h : a = b) : Value.bool a = .bool b:=by rw [h]
noncomputable def addressC : Code:=Tryz.f153.body.getD .skip
noncomputable def address11C : Code:=fromRegion 11 addressC
noncomputable def address6C : Code:=fromRegion 6 addressC
noncomputable def address4C : Code:=fromRegion 4 addressC
theorem address6_11 : fromRegion 11 address6C = address11C:=by kernel_rfl
theorem address4_6 : fromRegion 6 address4C = address6C:=by kernel_rfl
theorem addr11 (u1 u2 u3 u5 u6 u7 u8 u9 uA uB uC uD uE uF uG uH uI uJ uK uL uM uN uO uP uQ uR uS uT uU uV uW uX uY uZ ua ub uc ud ue uf ug uh ui uj uk ul um un uo up uq ur ut uu uv uw ux uy uz UA UB UC UD UE UF UG UH UI UJ UK UL UM UN UO UP UQ UR US UT UU UV UW UX UY UZ : Value) (s : ByteArray) (hs : s.size ≤ 9223372036854775807) (i : Nat) (hi : i ≤ s.size) (w : World) :
 Code.wp Tryz.prog address11C (RetSlot 2 (.bool (decide (seenStep 67 s i = s.size))) w) ⟨#[.string s,u1,u2,u3,.int .i64 (i : Nat),u5,u6,u7,u8,u9,uA,uB,uC,uD,uE,uF,uG,uH,uI,uJ,uK,uL,uM,uN,uO,uP,uQ,uR,uS,uT,uU,uV,uW,uX,uY,uZ,ua,ub,uc,ud,ue,uf,ug,uh,ui,uj,uk,ul,um,un,uo,up,uq,ur,ut,uu,uv,uw,ux,uy,uz,UA,UB,UC,UD,UE,UF,UG,UH,UI,UJ,UK,UL,UM,UN,UO,UP,UQ,UR,US,UT,UU,UV,UW,UX,UY,UZ],[]⟩ w:=by
 dsimp only
 conv => arg 2; whnf
 have hse : seenStep 67 s i = if i < s.size ∧ (s.data.toList.getD i 0).toNat = 67 then i + 1 + runOf isDig s (i + 1) else i:=rfl
 by_cases hlt0 : i < s.size
 · rw [getD_at s i hlt0] at hse
   have hbl0:=s[i].toNat_lt
   by_cases hc : s[i].toNat = 67
   · rw [if_pos ⟨hlt0,hc⟩] at hse
     have q : ((s[i].toNat : Int) == 67) = true:=by simp; omega
     have HSE:=Jh hse
     clear hse hc
     go_wp2
     go_loop [4] (fun v => ∃ j : Nat,j ≤ s.size ∧ v = .int .i64 j ∧ Hid (j + runOf isDig s j = i + 1 + runOf isDig s (i + 1))) (fun v => s.size - (intOf v).toNat)
     case atStart => exact ⟨i + 1,by omega,by go_num,by show _ = _; rfl⟩
     case round =>
      obtain ⟨j,hj,rfl,hsc⟩:=hrel
      by_cases hlt : j < s.size
      · have hD:=fun w => digit_any s[j] w
        have hbl:=s[j].toNat_lt
        by_cases hi2 : isDig s[j] = true
        · have hst : Hid (j + 1 + runOf isDig s (j + 1) = i + 1 + runOf isDig s (i + 1)):=by show _ = _; have:=hsc.out; rw [runOf_step _ s j hlt hi2] at this; omega
          rw [hi2] at hD
          have HD:=Jh hD
          clear hi2 hsc hD
          go_wp2_with (go_at_call 151; refine (HD.out _).mono ?_; rintro e w' ⟨rfl,rfl⟩)
          go_round
          case rel => exact ⟨j + 1,by omega,by go_num,hst⟩
          case measure => simp [intOf]; omega
        · have hi3 : isDig s[j] = false:=by simpa using hi2
          have hst : Hid (j = i + 1 + runOf isDig s (i + 1)):=by show _ = _; have:=hsc.out; rw [runOf_stop _ s j (fun _ => hi3)] at this; omega
          rw [hi3] at hD
          have HD:=Jh hD
          clear hi2 hi3 hsc hD
          go_wp2_with (go_at_call 151; refine (HD.out _).mono ?_; rintro e w' ⟨rfl,rfl⟩)
          refine ⟨rfl,rfl,?_,Below.refl _ _⟩
          have h1:=hst.out
          have h2:=HSE.out
          refine ret_eqb ?_
          rw [h2,← h1,Bool.eq_iff_iff]
          first | (simp; done) | (simp; omega)
      · have hst : Hid (j = i + 1 + runOf isDig s (i + 1)):=by show _ = _; have:=hsc.out; rw [runOf_stop _ s j (fun h => absurd h hlt)] at this; omega
        clear hsc
        go_wp2
        refine ⟨rfl,rfl,?_,Below.refl _ _⟩
        have h1:=hst.out
        have h2:=HSE.out
        refine ret_eqb ?_
        rw [h2,← h1,Bool.eq_iff_iff]
        first | (simp; done) | (simp; omega)
   · rw [if_neg (fun h => hc h.2)] at hse
     have q : ((s[i].toNat : Int) == 67) = false:=by simp; omega
     have HSE:=Jh hse
     clear hse hc
     go_wp2
     refine ⟨rfl,rfl,?_,Below.refl _ _⟩
     refine ret_eqb ?_
     rw [HSE.out,Bool.eq_iff_iff]; first | (simp; done) | (simp; omega)
 · rw [if_neg (fun h => hlt0 h.1)] at hse
   have HSE:=Jh hse
   clear hse
   go_wp2
   refine ⟨rfl,rfl,?_,Below.refl _ _⟩
   refine ret_eqb ?_
   rw [HSE.out,Bool.eq_iff_iff]; first | (simp; done) | (simp; omega)
theorem addr6 (u1 u2 u3 u4 u5 u6 u7 u8 u9 uA uB uC uD uE uF uG uH uI uJ uK uL uM uN uO uP uQ uR uS uT uU uV uW uX uY uZ ua ub uc ud ue uf ug uh ui uj uk ul um un uo up uq ur ut uu uv uw ux uy uz UA UB UC UD UE UF UG UH UI UJ UK UL UM UN UO UP UQ UR US UT UU UV UW UX UY UZ : Value) (s : ByteArray) (hs : s.size ≤ 9223372036854775807) (w : World) :
 Code.wp Tryz.prog address6C (RetSlot 2 (.bool (isSeenB s)) w) ⟨#[.string s,u1,u2,u3,u4,u5,u6,u7,u8,u9,uA,uB,uC,uD,uE,uF,uG,uH,uI,uJ,uK,uL,uM,uN,uO,uP,uQ,uR,uS,uT,uU,uV,uW,uX,uY,uZ,ua,ub,uc,ud,ue,uf,ug,uh,ui,uj,uk,ul,um,un,uo,up,uq,ur,ut,uu,uv,uw,ux,uy,uz,UA,UB,UC,UD,UE,UF,UG,UH,UI,UJ,UK,UL,UM,UN,UO,UP,UQ,UR,US,UT,UU,UV,UW,UX,UY,UZ],[]⟩ w:=by
 dsimp only
 have e11:=cut_from 11 address6C
 rw [address6_11] at e11
 obtain ⟨C,hC⟩ : ∃ C,C = address11C:=⟨_,rfl⟩
 rw [← hC] at e11
 have HC:=Jh hC
 clear hC
 rw [← e11]
 clear e11
 conv => arg 2; whnf; arg 2; whnf; arg 2; whnf
 have hfin : ∀ j,j = seenStep 82 s 0 → isSeenB s = decide (seenStep 67 s j = s.size):=fun j h => by rw [h]; rfl
 have hse : seenStep 82 s 0 = if 0 < s.size ∧ (s.data.toList.getD 0 0).toNat = 82 then 0 + 1 + runOf isDig s (0 + 1) else 0:=rfl
 have HFIN:=Jh hfin
 clear hfin
 by_cases hlt0 : 0 < s.size
 · rw [getD_at s 0 hlt0] at hse
   have hbl0:=s[0].toNat_lt
   by_cases hc : s[0].toNat = 82
   · rw [if_pos ⟨hlt0,hc⟩] at hse
     have q : ((s[0].toNat : Int) == 82) = true:=by simp; omega
     have HSE:=Jh hse
     clear hse hc
     go_wp2
     go_loop [4] (fun v => ∃ j : Nat,j ≤ s.size ∧ v = .int .i64 j ∧ Hid (j + runOf isDig s j = 0 + 1 + runOf isDig s (0 + 1))) (fun v => s.size - (intOf v).toNat)
     case atStart => exact ⟨0 + 1,by omega,by go_num,by show _ = _; rfl⟩
     case round =>
      obtain ⟨j,hj,rfl,hsc⟩:=hrel
      by_cases hlt : j < s.size
      · have hD:=fun w => digit_any s[j] w
        have hbl:=s[j].toNat_lt
        by_cases hi2 : isDig s[j] = true
        · have hst : Hid (j + 1 + runOf isDig s (j + 1) = 0 + 1 + runOf isDig s (0 + 1)):=by show _ = _; have:=hsc.out; rw [runOf_step _ s j hlt hi2] at this; omega
          rw [hi2] at hD
          have HD:=Jh hD
          clear hi2 hsc hD
          go_wp2_with (go_at_call 151; refine (HD.out _).mono ?_; rintro e w' ⟨rfl,rfl⟩)
          go_round
          case rel => exact ⟨j + 1,by omega,by go_num,hst⟩
          case measure => simp [intOf]; omega
        · have hi3 : isDig s[j] = false:=by simpa using hi2
          have hst : Hid (j = 0 + 1 + runOf isDig s (0 + 1)):=by show _ = _; have:=hsc.out; rw [runOf_stop _ s j (fun _ => hi3)] at this; omega
          rw [hi3] at hD
          have HD:=Jh hD
          clear hi2 hi3 hsc hD
          go_wp2_with (go_at_call 151; refine (HD.out _).mono ?_; rintro e w' ⟨rfl,rfl⟩)
          refine Code.wp_mono (Q:=RetSlot 2 (.bool (decide (seenStep 67 s j = s.size))) w) ?_ ?_
          · intro e a w' h
            rw [HFIN.out j (by rw [HSE.out,← hst.out])]; exact h
          rw [HC.out]
          exact addr11 _ _ _ _ _ _ _ _ _ _ _ _ _ _ _ _ _ _ _ _ _ _ _ _ _ _ _ _ _ _ _ _ _ _ _ _ _ _ _ _ _ _ _ _ _ _ _ _ _ _ _ _ _ _ _ _ _ _ _ _ _ _ _ _ _ _ _ _ _ _ _ _ _ _ _ _ _ _ _ _ _ _ _ _ _ s hs j hj w
      · have hst : Hid (j = 0 + 1 + runOf isDig s (0 + 1)):=by show _ = _; have:=hsc.out; rw [runOf_stop _ s j (fun h => absurd h hlt)] at this; omega
        clear hsc
        go_wp2
        refine Code.wp_mono (Q:=RetSlot 2 (.bool (decide (seenStep 67 s j = s.size))) w) ?_ ?_
        · intro e a w' h
          rw [HFIN.out j (by rw [HSE.out,← hst.out])]; exact h
        rw [HC.out]
        exact addr11 _ _ _ _ _ _ _ _ _ _ _ _ _ _ _ _ _ _ _ _ _ _ _ _ _ _ _ _ _ _ _ _ _ _ _ _ _ _ _ _ _ _ _ _ _ _ _ _ _ _ _ _ _ _ _ _ _ _ _ _ _ _ _ _ _ _ _ _ _ _ _ _ _ _ _ _ _ _ _ _ _ _ _ _ _ s hs j hj w
   · rw [if_neg (fun h => hc h.2)] at hse
     have q : ((s[0].toNat : Int) == 82) = false:=by simp; omega
     have HSE:=Jh hse
     clear hse hc
     go_wp2
     refine Code.wp_mono (Q:=RetSlot 2 (.bool (decide (seenStep 67 s 0 = s.size))) w) ?_ ?_
     · intro e a w' h
       rw [HFIN.out 0 HSE.out.symm]; exact h
     rw [HC.out]
     exact addr11 _ _ _ _ _ _ _ _ _ _ _ _ _ _ _ _ _ _ _ _ _ _ _ _ _ _ _ _ _ _ _ _ _ _ _ _ _ _ _ _ _ _ _ _ _ _ _ _ _ _ _ _ _ _ _ _ _ _ _ _ _ _ _ _ _ _ _ _ _ _ _ _ _ _ _ _ _ _ _ _ _ _ _ _ _ s hs 0 (Nat.zero_le _) w
 · rw [if_neg (fun h => hlt0 h.1)] at hse
   have hii : s.size = 0:=by omega
   have HSE:=Jh hse
   clear hse
   go_wp2
   refine Code.wp_mono (Q:=RetSlot 2 (.bool (decide (seenStep 67 s 0 = s.size))) w) ?_ ?_
   · intro e a w' h
     rw [HFIN.out 0 HSE.out.symm]; exact h
   rw [HC.out]
   exact addr11 _ _ _ _ _ _ _ _ _ _ _ _ _ _ _ _ _ _ _ _ _ _ _ _ _ _ _ _ _ _ _ _ _ _ _ _ _ _ _ _ _ _ _ _ _ _ _ _ _ _ _ _ _ _ _ _ _ _ _ _ _ _ _ _ _ _ _ _ _ _ _ _ _ _ _ _ _ _ _ _ _ _ _ _ _ s hs 0 (Nat.zero_le _) w
theorem addr_of {s : ByteArray} {k : Nat} (_hk : k ≤ s.size) (hkc : k = runOf isCap s 0) : addrB s = decide (1 ≤ k ∧ k ≤ 3 ∧ k < s.size ∧ k + runOf isDig s k = s.size):=by
 unfold addrB
 rw [← hkc,Bool.eq_iff_iff]
 simp only [decide_eq_true_eq]
 omega
theorem addr4 (u1 u2 u4 u5 u6 u7 u8 u9 uA uB uC uD uE uF uG uH uI uJ uK uL uM uN uO uP uQ uR uS uT uU uV uW uX uY uZ ua ub uc ud ue uf ug uh ui uj uk ul um un uo up uq ur ut uu uv uw ux uy uz UA UB UC UD UE UF UG UH UI UJ UK UL UM UN UO UP UQ UR US UT UU UV UW UX UY UZ : Value) (s : ByteArray) (hs : s.size ≤ 9223372036854775807) (k : Nat) (hk : k ≤ s.size) (hkc : k = runOf isCap s 0) (w : World) :
 Code.wp Tryz.prog address4C (RetSlot 2 (.bool (addrB s || isSeenB s)) w) ⟨#[.string s,u1,u2,.int .i64 (k : Nat),u4,u5,u6,u7,u8,u9,uA,uB,uC,uD,uE,uF,uG,uH,uI,uJ,uK,uL,uM,uN,uO,uP,uQ,uR,uS,uT,uU,uV,uW,uX,uY,uZ,ua,ub,uc,ud,ue,uf,ug,uh,ui,uj,uk,ul,um,un,uo,up,uq,ur,ut,uu,uv,uw,ux,uy,uz,UA,UB,UC,UD,UE,UF,UG,UH,UI,UJ,UK,UL,UM,UN,UO,UP,UQ,UR,US,UT,UU,UV,UW,UX,UY,UZ],[]⟩ w:=by
 dsimp only
 have e6:=cut_from 6 address4C
 rw [address4_6] at e6
 obtain ⟨C,hC⟩ : ∃ C,C = address6C:=⟨_,rfl⟩
 rw [← hC] at e6
 have HC:=Jh hC
 clear hC
 rw [← e6]
 clear e6
 conv => arg 2; whnf; arg 2; whnf
 have hA:=addr_of hk hkc
 have hdg:=fun w => rdigits_any (s.extract k s.size) (by simp; omega) w
 rw [digits_from s k hk] at hdg
 have HA:=Jh hA
 clear hA hkc
 by_cases c1 : 1 ≤ k
 case neg =>
  have q : Hid (addrB s = false):=Jh (by rw [HA.out]; simp; omega)
  have k0 : k = 0:=by omega
  clear hdg HA
  subst k0
  go_wp2
  refine Code.wp_mono (Q:=RetSlot 2 (.bool (isSeenB s)) w) ?_ ?_
  · intro e a w' h
    rw [q.out,Bool.false_or]; exact h
  rw [HC.out]
  exact addr6 _ _ _ _ _ _ _ _ _ _ _ _ _ _ _ _ _ _ _ _ _ _ _ _ _ _ _ _ _ _ _ _ _ _ _ _ _ _ _ _ _ _ _ _ _ _ _ _ _ _ _ _ _ _ _ _ _ _ _ _ _ _ _ _ _ _ _ _ _ _ _ _ _ _ _ _ _ _ _ _ _ _ _ _ _ _ s hs w
 by_cases c2 : k ≤ 3
 case neg =>
  have q : Hid (addrB s = false):=Jh (by rw [HA.out]; simp; omega)
  clear hdg HA
  go_wp2
  refine Code.wp_mono (Q:=RetSlot 2 (.bool (isSeenB s)) w) ?_ ?_
  · intro e a w' h
    rw [q.out,Bool.false_or]; exact h
  rw [HC.out]
  exact addr6 _ _ _ _ _ _ _ _ _ _ _ _ _ _ _ _ _ _ _ _ _ _ _ _ _ _ _ _ _ _ _ _ _ _ _ _ _ _ _ _ _ _ _ _ _ _ _ _ _ _ _ _ _ _ _ _ _ _ _ _ _ _ _ _ _ _ _ _ _ _ _ _ _ _ _ _ _ _ _ _ _ _ _ _ _ _ s hs w
 by_cases c3 : k < s.size
 case neg =>
  have q : Hid (addrB s = false):=Jh (by rw [HA.out]; simp; omega)
  clear hdg HA
  go_wp2
  refine Code.wp_mono (Q:=RetSlot 2 (.bool (isSeenB s)) w) ?_ ?_
  · intro e a w' h
    rw [q.out,Bool.false_or]; exact h
  rw [HC.out]
  exact addr6 _ _ _ _ _ _ _ _ _ _ _ _ _ _ _ _ _ _ _ _ _ _ _ _ _ _ _ _ _ _ _ _ _ _ _ _ _ _ _ _ _ _ _ _ _ _ _ _ _ _ _ _ _ _ _ _ _ _ _ _ _ _ _ _ _ _ _ _ _ _ _ _ _ _ _ _ _ _ _ _ _ _ _ _ _ _ s hs w
 by_cases c4 : k + runOf isDig s k = s.size
 case neg =>
  have q : Hid (addrB s = false):=Jh (by rw [HA.out]; simp; omega)
  rw [decide_eq_false c4] at hdg
  have HD:=Jh hdg
  clear hdg HA c4
  go_wp2_with (go_at_call 164; refine (HD.out _).mono ?_; rintro e w' ⟨rfl,rfl⟩)
  refine Code.wp_mono (Q:=RetSlot 2 (.bool (isSeenB s)) w) ?_ ?_
  · intro e a w' h
    rw [q.out,Bool.false_or]; exact h
  rw [HC.out]
  exact addr6 _ _ _ _ _ _ _ _ _ _ _ _ _ _ _ _ _ _ _ _ _ _ _ _ _ _ _ _ _ _ _ _ _ _ _ _ _ _ _ _ _ _ _ _ _ _ _ _ _ _ _ _ _ _ _ _ _ _ _ _ _ _ _ _ _ _ _ _ _ _ _ _ _ _ _ _ _ _ _ _ _ _ _ _ _ _ s hs w
 have q : Hid (addrB s = true):=Jh (by rw [HA.out]; simp; omega)
 rw [decide_eq_true c4] at hdg
 have HD:=Jh hdg
 clear hdg HA c4
 go_wp2_with (go_at_call 164; refine (HD.out _).mono ?_; rintro e w' ⟨rfl,rfl⟩)
 exact ⟨rfl,rfl,by rw [q.out]; rfl,Below.refl _ _⟩
theorem raddress_any (s : ByteArray) (hs : s.size ≤ 9223372036854775807) (w : World) : Calls Tryz.prog 153 #[.string s] w fun e w' => e = .returned (.bool (addrB s || isSeenB s)) ∧ Below w.heap.size w w':=by
 go_enter Tryz.func153,Tryz.ntmps153
 have e4:=cut_from 4 addressC
 obtain ⟨C,hC⟩ : ∃ C,C = fromRegion 4 addressC:=⟨_,rfl⟩
 rw [← hC] at e4
 have HC:=Jh hC
 clear hC
 change Code.wp Tryz.prog addressC _ _ _
 rw [← e4]
 clear e4
 conv => arg 2; whnf; arg 2; whnf; arg 2; whnf; arg 2; whnf
 refine Code.wp_mono (Q:=RetSlot 2 (.bool (addrB s || isSeenB s)) w) ?_ ?_
 · rintro e a w' ⟨rfl,hd',h2,hb⟩
   refine bodyPost_ret (results_tmp rfl _ _ _) hd' ?_
   rw [h2]
   exact ⟨rfl,hb⟩
 go_wp2
 go_loop [3] (fun i => ∃ k : Nat,k ≤ s.size ∧ i = .int .i64 k ∧ Hid (k + runOf isCap s k = runOf isCap s 0)) (fun i => s.size - (intOf i).toNat)
 case atStart => exact ⟨0,by omega,rfl,by show _ = _; omega⟩
 case round =>
  obtain ⟨k,hk,rfl,hsc⟩:=hrel
  by_cases hlt : k < s.size
  · have hL:=fun w => letter_any s[k] w
    have hbl:=s[k].toNat_lt
    by_cases hi : isCap s[k] = true
    · have hst : Hid (k + 1 + runOf isCap s (k + 1) = runOf isCap s 0):=by show _ = _; have:=hsc.out; rw [runOf_step _ s k hlt hi] at this; omega
      rw [hi] at hL
      have HL:=Jh hL
      clear hi hsc hL
      go_wp2_with (go_at_call 150; refine (HL.out _).mono ?_; rintro e w' ⟨rfl,rfl⟩)
      go_round
      case rel => exact ⟨k + 1,by omega,by go_num,hst⟩
      case measure => simp [intOf]; omega
    · have hi' : isCap s[k] = false:=by simpa using hi
      have hst : Hid (k = runOf isCap s 0):=by show _ = _; have:=hsc.out; rw [runOf_stop _ s k (fun _ => hi')] at this; omega
      rw [hi'] at hL
      have HL:=Jh hL
      clear hi hi' hsc hL
      go_wp2_with (go_at_call 150; refine (HL.out _).mono ?_; rintro e w' ⟨rfl,rfl⟩)
      rw [HC.out]
      exact addr4 _ _ _ _ _ _ _ _ _ _ _ _ _ _ _ _ _ _ _ _ _ _ _ _ _ _ _ _ _ _ _ _ _ _ _ _ _ _ _ _ _ _ _ _ _ _ _ _ _ _ _ _ _ _ _ _ _ _ _ _ _ _ _ _ _ _ _ _ _ _ _ _ _ _ _ _ _ _ _ _ _ _ _ _ _ s hs k hk hst.out w
  · have hst : Hid (k = runOf isCap s 0):=by show _ = _; have:=hsc.out; rw [runOf_stop _ s k (fun h => absurd h hlt)] at this; omega
    clear hsc
    go_wp2
    rw [HC.out]
    exact addr4 _ _ _ _ _ _ _ _ _ _ _ _ _ _ _ _ _ _ _ _ _ _ _ _ _ _ _ _ _ _ _ _ _ _ _ _ _ _ _ _ _ _ _ _ _ _ _ _ _ _ _ _ _ _ _ _ _ _ _ _ _ _ _ _ _ _ _ _ _ _ _ _ _ _ _ _ _ _ _ _ _ _ _ _ _ s hs k hk hst.out w
end Go.Proofs.YtelombedjkbckaaGreatDoor
